
/-
  Goroutine 0 beside leavers: longs of two equal lists. Goroutine 0 beside leavers: awake. What Spread leaves, in plain numbers: where no number is below nought nor great, no sum wraps. Goroutine 0 beside leavers: the first frame, and its return.
  Conditions: stated lemma by lemma.
-/
import Derived.Test.YtboiolnnhmlieaaGc13
import Derived.Great.BuildSlice
import Derived.Test.YtboiolnnhmlieaaGb11
namespace Go.Proofs.Ytboiolnnhmlieaa.Gang
open Go.Conc Go.ConcN Go.RowKit Go.Conc.Lib Go.ConcR.Gen Go.ConcN.Gen
set_option linter.unusedVariables false
set_option linter.unusedSimpArgs false
theorem nm19 : (Try.f19.name == "runtime.NumGoroutine") = false := by kernel_rfl
noncomputable def loop19 : Code := match Try.f19.body.getD .skip with | .seq _ (.seq _ (.seq (.seq _ (.block _ (.loop c))) _)) => c | .seq _ (.seq _ (.seq _ (.seq (.block _ (.loop c)) _))) => c | _ => .skip
noncomputable def tail19 : Code := match Try.f19.body.getD .skip with | .seq _ (.seq _ (.seq (.seq _ (.block _ (.loop _))) c)) => c | .seq _ (.seq _ (.seq _ (.seq (.block _ (.loop _)) c))) => c | _ => .skip
section
variable {X : Cx} {w : World}
set_option maxRecDepth 100000 in
set_option maxHeartbeats 8000000 in
theorem longs_loop {A B N c1 c2 : Nat} (f : Nat → Int) (hN : N ≤ 1099511627776) (hA : X.free A) (hB : X.free B) (cA : ∀ i, i < N → w.cell? ⟨A, i, none⟩ = some (.int .i64 (f i))) (cB : ∀ i, i < N → w.cell? ⟨B, i, none⟩ = some (.int .i64 (f i)))
    {b : Frame} {a : Act} {K : List Item} {cs : List Frame} {ops : Array Oper} {i : Nat} {rest : List Nat} (hK : Run Try.prog X (G (b.at (a.put ((ops[i]?).bind (·.dst)) (.bool true)) (.inRegion ops rest :: K)) cs) w) : ∀ (m k : Nat), k + m = N → ∀ (y2 y3 y6 y7 y8 y9 y10 y11 y12 y13 y14 y15 y16 y17 y18 y19 y20 y21 y22 y23 y24 y25 : Value),
    Run Try.prog X (G ((base 19).at ⟨#[.slice (some ⟨A, 0, none⟩) N c1, .slice (some ⟨B, 0, none⟩) N c2, y2, y3, .bool false, .int .i64 (k : Int), y6, y7, y8, y9, y10, y11, y12, y13, y14, y15, y16, y17, y18, y19, y20, y21, y22, y23, y24, y25], []⟩ [.code loop19, .inLoop loop19, .inBlock 0, .code tail19]) (b.at a (.inRegion ops (i :: rest) :: K) :: cs)) w := by
  intro m
  induction m with
  | zero =>
    intro k hk y2 y3 y6 y7 y8 y9 y10 y11 y12 y13 y14 y15 y16 y17 y18 y19 y20 y21 y22 y23 y24 y25
    have hlt : decide ((k : Int) < (N : Int)) = false := decide_eq_false (by omega)
    have hlt' : decide (k < N) = false := decide_eq_false (by omega)
    simp only [loop19, tail19, Try.f19, Option.getD_some]
    clear cA cB
    repeat first
      | refine Run.seq ?_
      | refine Run.skip ?_
      | refine Run.regionEnd ?_
      | refine Run.block ?_
      | refine Run.inBlock ?_
      | (refine Run.region ?_; simp only [List.size_toArray, List.length_cons, List.length_nil, Nat.reduceAdd, Nat.zero_add, List.range, List.range.loop])
      | (refine Run.cond rfl ?_; simp only [if_true, if_false, Bool.false_eq_true, ↓reduceIte])
      | (refine Run.unwanted rfl rfl ?_; walk_nrm)
      | (refine Run.op0 rfl rfl (by k_ne) (fun d K hK => by go_simp; exact hK) (fun d => by first | (simp [go_sem, *] <;> fail) | fail) ?_; try w_num)
      | refine Run.ret ?_
      | refine Run.fin ?_
      | refine Run.exit rfl ?_
    refine Run.leave1 rfl rfl Try.func19 rfl ?_
    exact hK
  | succ m ih =>
    intro k hk y2 y3 y6 y7 y8 y9 y10 y11 y12 y13 y14 y15 y16 y17 y18 y19 y20 y21 y22 y23 y24 y25
    have hkN : k < N := by omega
    have hlt : decide ((k : Int) < (N : Int)) = true := decide_eq_true (by omega)
    have hlt' : decide (k < N) = true := decide_eq_true hkN
    have hki : (k : Int) < (N : Int) := by omega
    have ew : IntKind.i64.wrap ((k : Int) + 1) = ((k + 1 : Nat) : Int) := by rw [IntKind.wrap_i64]; omega
    have ck := cA k hkN
    have dk := cB k hkN
    have ih := ih (k + 1) (by omega)
    simp only [loop19, tail19, Try.f19, Option.getD_some] at ih ⊢
    clear cA cB
    repeat first
      | refine Run.seq ?_
      | refine Run.skip ?_
      | refine Run.regionEnd ?_
      | refine Run.block ?_
      | refine Run.inBlock ?_
      | (refine Run.region ?_; simp only [List.size_toArray, List.length_cons, List.length_nil, Nat.reduceAdd, Nat.zero_add, List.range, List.range.loop])
      | (refine Run.cond rfl ?_; simp only [if_true, if_false, Bool.false_eq_true, ↓reduceIte])
      | (refine Run.unwanted rfl rfl ?_; walk_nrm)
      | (refine Run.op0 rfl rfl (by k_ne) (fun d K hK => by go_simp; exact hK) (fun d => by first | (simp [go_sem, *] <;> fail) | fail) ?_; try w_num)
      | refine Run.ret ?_
      | refine Run.fin ?_
      | refine Run.exit rfl ?_
    refine Run.draw (by k_ne) rfl (fun a' w' => w' = w ∧ a' = ⟨#[.slice (some ⟨A, 0, none⟩) N c1, .slice (some ⟨B, 0, none⟩) N c2, y2, y3, .bool false, .int .i64 (k : Int), y6, y7, y8, y9, y10, .int .i64 (k : Int), .slice (some ⟨A, 0, none⟩) N c1, .int .i64 (N : Int), .bool true, y15, y16, .slice (some ⟨A, 0, none⟩) N c1, .int .i64 (k : Int), .pointer (some ⟨A, k, none⟩), .int .i64 (f k), .slice (some ⟨B, 0, none⟩) N c2, .int .i64 (k : Int), .pointer (some ⟨B, k, none⟩), .int .i64 (f k), .bool false], []⟩) (fun w' => w' = w) ?_ (fun a' w' hq => ?_)
    · simp only [List.size_toArray, List.length_cons, List.length_nil, Nat.reduceAdd, Nat.zero_add]
      refine anyR_take (i' := 0) rfl (by kernel_rfl) (by kernel_rfl) (by kernel_rfl) (by kernel_rfl) (fun w' hS => by
        have k1 : w'.cell? ⟨A, k, none⟩ = some (.int .i64 (f k)) := by rw [show w' = w from hS]; exact ck
        have k2 : w'.cell? ⟨B, k, none⟩ = some (.int .i64 (f k)) := by rw [show w' = w from hS]; exact dk
        exact .inl ⟨rfl, fun d => ⟨by go_simp; rfl, fun e he => by simp [go_sem, *] at he⟩⟩) ?_
      walk_nrm
      refine anyR_take (i' := 1) rfl (by kernel_rfl) (by kernel_rfl) (by kernel_rfl) (by kernel_rfl) (fun w' hS => by
        have k1 : w'.cell? ⟨A, k, none⟩ = some (.int .i64 (f k)) := by rw [show w' = w from hS]; exact ck
        have k2 : w'.cell? ⟨B, k, none⟩ = some (.int .i64 (f k)) := by rw [show w' = w from hS]; exact dk
        exact .inl ⟨rfl, fun d => ⟨by go_simp; rfl, fun e he => by simp [go_sem, *] at he⟩⟩) ?_
      walk_nrm
      refine anyR_take (i' := 2) rfl (by kernel_rfl) (by kernel_rfl) (by kernel_rfl) (by kernel_rfl) (fun w' hS => by
        have k1 : w'.cell? ⟨A, k, none⟩ = some (.int .i64 (f k)) := by rw [show w' = w from hS]; exact ck
        have k2 : w'.cell? ⟨B, k, none⟩ = some (.int .i64 (f k)) := by rw [show w' = w from hS]; exact dk
        exact .inl ⟨rfl, fun d => ⟨by go_simp; rfl, fun e he => by simp [go_sem, *] at he⟩⟩) ?_
      walk_nrm
      refine anyR_take (i' := 3) rfl (by kernel_rfl) (by kernel_rfl) (by kernel_rfl) (by kernel_rfl) (fun w' hS => by
        have k1 : w'.cell? ⟨A, k, none⟩ = some (.int .i64 (f k)) := by rw [show w' = w from hS]; exact ck
        have k2 : w'.cell? ⟨B, k, none⟩ = some (.int .i64 (f k)) := by rw [show w' = w from hS]; exact dk
        exact .inl ⟨rfl, fun d => ⟨by go_simp; rfl, fun e he => by simp [go_sem, *] at he; subst he; exact evL_free hA⟩⟩) ?_
      walk_nrm
      refine anyR_take (i' := 4) rfl (by kernel_rfl) (by kernel_rfl) (by kernel_rfl) (by kernel_rfl) (fun w' hS => by
        have k1 : w'.cell? ⟨A, k, none⟩ = some (.int .i64 (f k)) := by rw [show w' = w from hS]; exact ck
        have k2 : w'.cell? ⟨B, k, none⟩ = some (.int .i64 (f k)) := by rw [show w' = w from hS]; exact dk
        exact .inl ⟨rfl, fun d => ⟨by go_simp; rfl, fun e he => by simp [go_sem, *] at he⟩⟩) ?_
      walk_nrm
      refine anyR_take (i' := 5) rfl (by kernel_rfl) (by kernel_rfl) (by kernel_rfl) (by kernel_rfl) (fun w' hS => by
        have k1 : w'.cell? ⟨A, k, none⟩ = some (.int .i64 (f k)) := by rw [show w' = w from hS]; exact ck
        have k2 : w'.cell? ⟨B, k, none⟩ = some (.int .i64 (f k)) := by rw [show w' = w from hS]; exact dk
        exact .inl ⟨rfl, fun d => ⟨by go_simp; rfl, fun e he => by simp [go_sem, *] at he⟩⟩) ?_
      walk_nrm
      refine anyR_take (i' := 6) rfl (by kernel_rfl) (by kernel_rfl) (by kernel_rfl) (by kernel_rfl) (fun w' hS => by
        have k1 : w'.cell? ⟨A, k, none⟩ = some (.int .i64 (f k)) := by rw [show w' = w from hS]; exact ck
        have k2 : w'.cell? ⟨B, k, none⟩ = some (.int .i64 (f k)) := by rw [show w' = w from hS]; exact dk
        exact .inl ⟨rfl, fun d => ⟨by go_simp; rfl, fun e he => by simp [go_sem, *] at he⟩⟩) ?_
      walk_nrm
      refine anyR_take (i' := 7) rfl (by kernel_rfl) (by kernel_rfl) (by kernel_rfl) (by kernel_rfl) (fun w' hS => by
        have k1 : w'.cell? ⟨A, k, none⟩ = some (.int .i64 (f k)) := by rw [show w' = w from hS]; exact ck
        have k2 : w'.cell? ⟨B, k, none⟩ = some (.int .i64 (f k)) := by rw [show w' = w from hS]; exact dk
        exact .inl ⟨rfl, fun d => ⟨by go_simp; rfl, fun e he => by simp [go_sem, *] at he; subst he; exact evL_free hB⟩⟩) ?_
      walk_nrm
      refine anyR_take (i' := 8) rfl (by kernel_rfl) (by kernel_rfl) (by kernel_rfl) (by kernel_rfl) (fun w' hS => by
        have k1 : w'.cell? ⟨A, k, none⟩ = some (.int .i64 (f k)) := by rw [show w' = w from hS]; exact ck
        have k2 : w'.cell? ⟨B, k, none⟩ = some (.int .i64 (f k)) := by rw [show w' = w from hS]; exact dk
        exact .inl ⟨rfl, fun d => ⟨by go_simp; rfl, fun e he => by simp [go_sem, *] at he⟩⟩) ?_
      walk_nrm
      exact anyR_done (by kernel_rfl) rfl ⟨rfl, rfl⟩
    · obtain ⟨rfl, rfl⟩ := hq
      repeat first
        | refine Run.seq ?_
        | refine Run.skip ?_
        | refine Run.regionEnd ?_
        | refine Run.block ?_
        | refine Run.inBlock ?_
        | (refine Run.region ?_; simp only [List.size_toArray, List.length_cons, List.length_nil, Nat.reduceAdd, Nat.zero_add, List.range, List.range.loop])
        | (refine Run.cond rfl ?_; simp only [if_true, if_false, Bool.false_eq_true, ↓reduceIte])
        | (refine Run.unwanted rfl rfl ?_; walk_nrm)
        | (refine Run.op0 rfl rfl (by k_ne) (fun d K hK => by go_simp; exact hK) (fun d => by first | (simp [go_sem, *] <;> fail) | fail) ?_; try w_num)
        | refine Run.ret ?_
        | refine Run.fin ?_
        | refine Run.exit rfl ?_
      first | rw [ew] | rw [show (k : Int) + 1 = ((k + 1 : Nat) : Int) by omega]
      refine Run.inLoop ?_
      exact ih _ _ _ _ _ _ _ _ _ _ _ _ _ _ _ _ _ _ _ _ _ _
set_option maxRecDepth 100000 in
set_option maxHeartbeats 8000000 in
theorem longs_con {A B N c1 c2 : Nat} (f : Nat → Int) (hN : N ≤ 1099511627776) (hA : X.free A) (hB : X.free B) (cA : ∀ i, i < N → w.cell? ⟨A, i, none⟩ = some (.int .i64 (f i))) (cB : ∀ i, i < N → w.cell? ⟨B, i, none⟩ = some (.int .i64 (f i))) :
    Con Try.prog X 19 #[.slice (some ⟨A, 0, none⟩) N c1, .slice (some ⟨B, 0, none⟩) N c2] w (fun X' v w' => X' = X ∧ w' = w ∧ v = .bool true) := by
  refine ⟨Try.f19, _, Try.func19, nm19, rfl, fun b₀ a₀ ops₀ n₀ rest₀ k₀ cs hK => ?_⟩
  walk_nrmf Try.f19
  have hL := longs_loop (c1 := c1) (c2 := c2) f hN hA hB cA cB (b := b₀) (a := a₀) (K := k₀) (cs := cs) (ops := ops₀) (i := n₀) (rest := rest₀) (hK _ _ _ ⟨rfl, rfl, rfl⟩) N 0 (by omega)
  clear hK cA cB
  simp only [loop19, tail19, Try.f19, Option.getD_some] at hL
  repeat first
    | refine Run.seq ?_
    | refine Run.skip ?_
    | refine Run.regionEnd ?_
    | refine Run.block ?_
    | refine Run.inBlock ?_
    | (refine Run.region ?_; simp only [List.size_toArray, List.length_cons, List.length_nil, Nat.reduceAdd, Nat.zero_add, List.range, List.range.loop])
    | (refine Run.cond rfl ?_; simp only [if_true, if_false, Bool.false_eq_true, ↓reduceIte])
    | (refine Run.unwanted rfl rfl ?_; walk_nrm)
    | (refine Run.op0 rfl rfl (by k_ne) (fun d K hK => by go_simp; exact hK) (fun d => by first | (simp [go_sem, *] <;> fail) | fail) ?_; try w_num)
    | refine Run.ret ?_
    | refine Run.fin ?_
    | refine Run.exit rfl ?_
  refine Run.loop ?_
  exact hL _ _ _ _ _ _ _ _ _ _ _ _ _ _ _ _ _ _ _ _ _ _
end
end Go.Proofs.Ytboiolnnhmlieaa.Gang
namespace Go.Proofs.Ytboiolnnhmlieaa.Gang
open Go.Conc Go.ConcN Go.RowKit Go.Conc.Lib Go.ConcR.Gen Go.ConcN.Gen
set_option linter.unusedVariables false
set_option linter.unusedSimpArgs false
theorem info31 : Try.prog.info? 31 = some Try.t31 := by kernel_rfl
theorem mk32 (w : World) : (Instr.buildSlice 32 2 #[(0, .agg #[.int .i64 1, .int .i64 2]), (1, .agg #[.int .i64 1, .int .i64 3])]).run Try.prog w = .ok (.slice (some ⟨w.heap.size, 0, none⟩) 2 2) (w.alloc (.cells #[.int .i64 1, .int .i64 2, .int .i64 1, .int .i64 3] 31)) :=
  run_buildSlice w 32 31 2 _ _ _ (.agg #[.int .i64 0, .int .i64 0]) Try.underlying32 info31 (by kernel_rfl) (by decide) (by decide) (by kernel_rfl)
theorem ev32 (w : World) (es : Array Event) : (Instr.buildSlice 32 2 #[(0, .agg #[.int .i64 1, .int .i64 2]), (1, .agg #[.int .i64 1, .int .i64 3])]).events Try.prog w es = es := by
  unfold Instr.buildSlice
  simp [go_sem]
theorem mk6 (w : World) : (Instr.buildSlice 41 6 #[(0, .int .i64 1), (1, .int .i64 2), (2, .int .i64 3), (3, .int .i64 4), (4, .int .i64 5), (5, .int .i64 6)]).run Try.prog w = .ok (.slice (some ⟨w.heap.size, 0, none⟩) 6 6) (w.alloc (.cells #[.int .i64 1, .int .i64 2, .int .i64 3, .int .i64 4, .int .i64 5, .int .i64 6] 2)) :=
  run_buildSlice w 41 2 6 _ _ _ (.int .i64 0) Try.underlying41 info2 (by kernel_rfl) (by decide) (by decide) (by kernel_rfl)
theorem ev6 (w : World) (es : Array Event) : (Instr.buildSlice 41 6 #[(0, .int .i64 1), (1, .int .i64 2), (2, .int .i64 3), (3, .int .i64 4), (4, .int .i64 5), (5, .int .i64 6)]).events Try.prog w es = es := by
  unfold Instr.buildSlice
  simp [go_sem]
theorem mk31 (x y : Int) : Try.prog.built 31 (#[(0, Value.int .i64 x), (1, Value.int .i64 y)] : Array (Nat × Value)).toList = some #[.int .i64 x, .int .i64 y] := by kernel_rfl
theorem ev31 (x y : Int) (w : World) (es : Array Event) : (Instr.build 31 #[(0, .int .i64 x), (1, .int .i64 y)]).events Try.prog w es = es := by
  unfold Instr.build
  simp [go_sem]
theorem spVal : spGoal [(1, 2), (1, 3)] ⟨fun a => if a = 0 then w64 (0 + 5) else 0, 5⟩ 0 = 5 := by decide
theorem spVal1 : spGoal [(1, 2), (1, 3)] ⟨fun a => if a = 0 then w64 (0 + 5) else 0, 5⟩ 1 = 5 := by decide
theorem spTopV : spTop [(1, 2), (1, 3)] ⟨fun a => if a = 0 then w64 (0 + 5) else 0, 5⟩ = 5 := by decide
theorem nm8 : (Try.f8.name == "runtime.NumGoroutine") = false := by kernel_rfl
section
variable {X : Cx} {w : World}
/-- all that lay there is as it was -/
abbrev Keep (w w' : World) : Prop := Off w.heap.size w w'
theorem Off.keep {T : Nat} {w w1 w2 : World} (h : Off w.heap.size w w1) (k : Off T w1 w2) (hT : w.heap.size ≤ T) : Off w.heap.size w w2 :=
  ⟨k.tape.trans h.tape, k.os.trans h.os, k.output.trans h.output, Nat.le_trans h.size k.size, fun b hb _ => (k.block b (Nat.lt_of_lt_of_le hb h.size) (by omega)).trans (h.block b hb (by omega))⟩
theorem Aside.off {T : Nat} {w w' : World} (h : Aside T w w') : Off T w w' := Off.of_aside h
theorem Cx.Next.of_same {X : Cx} {w w1 w2 : World} {X1 : Cx} (h : X.Next w X1 w1) (hs : w2.heap.size = w1.heap.size) : X.Next w X1 w2 :=
  ⟨h.post, h.d, by rw [hs]; exact h.B, fun l hl => by
    rcases h.sh l hl with h1 | ⟨a, e, h2, h3⟩
    · exact .inl h1
    · exact .inr ⟨a, e, h2, by omega⟩, h.sub, by have := h.le; omega⟩
def tl0 : Tl := ⟨fun _ => 0, 0, 0, false, 0⟩
def tl1 : Tl := ⟨fun a => if a = 0 then w64 (0 + 5) else 0, 5, 0, false, 0⟩
noncomputable def tl5 : Tl := { tl1.spread [(1, 2), (1, 3)] with tick := 6 }
theorem tl5_0 : (if (0 : Int) ≤ 0 ∧ (0 : Int) < 8 then tl5.cs (0 : Int).toNat else 0) = 5 := by decide
theorem tl5_1 : (if (0 : Int) ≤ 1 ∧ (1 : Int) < 8 then tl5.cs (1 : Int).toNat else 0) = 5 := by decide
theorem tl5_m : tl5.most = 5 := by decide
set_option maxRecDepth 100000 in
set_option maxHeartbeats 8000000 in
theorem awake_con (hX : X.ok w) (hm : ∀ l : Loc, l.isMemory = false → X.Sh l) : Con Try.prog X 8 #[] w (fun X' v w' => X.Next w X' w' ∧ Keep w w' ∧ v = .bool true) := by
  have rb := fun (w₁ : World) (x y : Int) => run_build (P := Try.prog) w₁ 31 _ _ (mk31 x y)
  have eb := ev31
  have r2 := mk32
  have e2 := ev32
  have r6 := mk6
  have e6 := ev6
  refine ⟨Try.f8, _, Try.func8, nm8, rfl, fun b₀ a₀ ops₀ n₀ rest₀ k₀ cs hK => ?_⟩
  walk_nrmf Try.f8
  obtain ⟨T, hTd⟩ : ∃ T, w.heap.size = T := ⟨_, rfl⟩
  have evn := ev_nilptr ⟨T, 0, none⟩
  repeat first
    | refine Run.seq ?_
    | refine Run.skip ?_
    | refine Run.regionEnd ?_
    | refine Run.block ?_
    | refine Run.inBlock ?_
    | (refine Run.region ?_; simp only [List.size_toArray, List.length_cons, List.length_nil, Nat.reduceAdd, Nat.zero_add, List.range, List.range.loop])
    | (refine Run.cond rfl ?_; simp only [if_true, if_false, Bool.false_eq_true, ↓reduceIte])
    | (refine Run.unwanted rfl rfl ?_; walk_nrm)
    | (refine Run.op0 rfl rfl (by k_ne) (fun d K hK => by go_simp; exact hK) (fun d => by first | (simp [go_sem, *] <;> fail) | fail) ?_; try w_num)
    | refine Run.ret ?_
    | refine Run.fin ?_
    | refine Run.exit rfl ?_
  refine Run.con (new_con hX) rfl rfl (by k_ne) rfl (by first | (simp only [List.map_toArray, List.map_cons, List.map_nil]; done) | (simp only [List.map_toArray, List.map_cons, List.map_nil]; rfl)) (fun X1 v w1 hr => ?_)
  obtain ⟨rfl, rfl, hO1, hs1, ht1⟩ := hr
  rw [hTd] at ht1 hs1
  have hN1 : X.Next w (X.up w1.heap.size) w1 := Cx.next_up hX (by omega)
  have hX1 := hN1.ok hX
  have hm1 : ∀ l : Loc, l.isMemory = false → (X.up w1.heap.size).Sh l := fun l hl => hN1.sub l (hm l hl)
  have hT1 : (X.up w1.heap.size).free T := ⟨by rw [hN1.B]; omega, hX.new T (by omega)⟩
  simp only [hTd]
  generalize X.up w1.heap.size = X1 at hN1 hX1 hm1 hT1 ⊢
  try walk_nrm
  repeat first
    | refine Run.seq ?_
    | refine Run.skip ?_
    | refine Run.regionEnd ?_
    | refine Run.block ?_
    | refine Run.inBlock ?_
    | (refine Run.region ?_; simp only [List.size_toArray, List.length_cons, List.length_nil, Nat.reduceAdd, Nat.zero_add, List.range, List.range.loop])
    | (refine Run.cond rfl ?_; simp only [if_true, if_false, Bool.false_eq_true, ↓reduceIte])
    | (refine Run.unwanted rfl rfl ?_; walk_nrm)
    | (refine Run.op0 rfl rfl (by k_ne) (fun d K hK => by go_simp; exact hK) (fun d => by first | (simp [go_sem, *] <;> fail) | fail) ?_; try w_num)
    | refine Run.ret ?_
    | refine Run.fin ?_
    | refine Run.exit rfl ?_
  refine Run.con (add_yes (c := 0) (d := 5) hT1.1 ht1 (by omega) (by decide)) rfl rfl (by k_ne) rfl (by first | (simp only [List.map_toArray, List.map_cons, List.map_nil]; done) | (simp only [List.map_toArray, List.map_cons, List.map_nil]; rfl)) (fun X2 v w2 hr => ?_)
  obtain ⟨rfl, rfl, ht2, ha2⟩ := hr
  have ht2 : TlAt T tl1 w2 := ht2
  have hO2 := hO1.keep (Off.of_aside ha2) (by omega)
  have hN2 := hN1.of_same ha2.size
  have hX2 := hN2.ok hX
  clear ht1 ha2 hO1 hN1 hs1 hX1
  walk_nrm
  repeat first
    | refine Run.seq ?_
    | refine Run.skip ?_
    | refine Run.regionEnd ?_
    | refine Run.block ?_
    | refine Run.inBlock ?_
    | (refine Run.region ?_; simp only [List.size_toArray, List.length_cons, List.length_nil, Nat.reduceAdd, Nat.zero_add, List.range, List.range.loop])
    | (refine Run.cond rfl ?_; simp only [if_true, if_false, Bool.false_eq_true, ↓reduceIte])
    | (refine Run.unwanted rfl rfl ?_; walk_nrm)
    | (refine Run.op0 rfl rfl (by k_ne) (fun d K hK => by go_simp; exact hK) (fun d => by first | (simp [go_sem, *] <;> fail) | fail) ?_; try w_num)
    | refine Run.ret ?_
    | refine Run.fin ?_
    | refine Run.exit rfl ?_
  refine Run.op (w2.alloc (.cells #[.int .i64 1, .int .i64 2, .int .i64 1, .int .i64 3] 31)) rfl rfl (by k_ne) (fun d K hK => by go_simp; exact hK) (fun d e he => by simp [go_sem, *] at he) ?_
  try w_num
  obtain ⟨S, hS⟩ : ∃ S, w2.heap.size = S := ⟨_, rfl⟩
  have hbS : (w2.alloc (.cells #[.int .i64 1, .int .i64 2, .int .i64 1, .int .i64 3] 31)).heap[S]? = some (.cells #[.int .i64 1, .int .i64 2, .int .i64 1, .int .i64 3] 31) := by
    rw [← hS]; unfold World.alloc; simp
  have hA3 : Off w2.heap.size w2 (w2.alloc (.cells #[.int .i64 1, .int .i64 2, .int .i64 1, .int .i64 3] 31)) := Off.alloc _ w2 _
  have hs3 : (w2.alloc (.cells #[.int .i64 1, .int .i64 2, .int .i64 1, .int .i64 3] 31)).heap.size = S + 1 := by rw [World.size_alloc, hS]
  simp only [hS]
  generalize w2.alloc (.cells #[.int .i64 1, .int .i64 2, .int .i64 1, .int .i64 3] 31) = w3 at hbS hA3 hs3 ⊢
  have hTS : T < S := by
    have h1 := hX2.low
    have h2 := hT1.1
    omega
  have hO3 := hO2.keep hA3 (by have := hO2.size; omega)
  have hN3 : X.Next w (X2.up w3.heap.size) w3 := hN2.trans (Cx.next_up hX2 (by omega))
  refine Run.up w3.heap.size ?_
  have hT3 : (X2.up w3.heap.size).free T := Cx.free_up hT1
  have hS3 : (X2.up w3.heap.size).free S := ⟨by rw [hN3.B]; omega, hX2.new S (by omega)⟩
  have hX3 := hN3.ok hX
  have ht3 : TlAt T tl1 w3 := by
    unfold TlAt TalAt
    rw [hA3.block T (by omega) (by omega)]
    exact ht2
  have hm3 : ∀ l : Loc, l.isMemory = false → (X2.up w3.heap.size).Sh l := fun l hl => hN3.sub l (hm l hl)
  clear hm1 hX2 hN2 hO2 ht2 hA3 r2 e2 rb eb hT1
  generalize X2.up w3.heap.size = X3 at hN3 hT3 hS3 hX3 hm3 ⊢
  have hst : StepsAt (some ⟨S, 0, none⟩) [(1, 2), (1, 3)] w3 := fun _ => ⟨S, 0, rfl, by omega, fun j hj => by
    have hj : j < 2 := hj
    rcases (by omega : j = 0 ∨ j = 1) with rfl | rfl <;> exact ⟨by unfold World.cell?; simp [hbS], by unfold World.cell?; simp [hbS]⟩⟩
  have hSp := spread_con (x := tl1) [(1, 2), (1, 3)] (sl := some ⟨S, 0, none⟩) (cap := 2) (n := 4) (by decide) hX3 hm3 hT3 ht3 (fun c => by show w64 (if c = 0 then w64 (0 + 5) else 0) = (if c = 0 then w64 (0 + 5) else 0); split <;> decide) hst (fun ar off e => by cases e; exact hS3) (fun ar off e => by cases e; omega)
  repeat first
    | refine Run.seq ?_
    | refine Run.skip ?_
    | refine Run.regionEnd ?_
    | refine Run.block ?_
    | refine Run.inBlock ?_
    | (refine Run.region ?_; simp only [List.size_toArray, List.length_cons, List.length_nil, Nat.reduceAdd, Nat.zero_add, List.range, List.range.loop])
    | (refine Run.cond rfl ?_; simp only [if_true, if_false, Bool.false_eq_true, ↓reduceIte])
    | (refine Run.unwanted rfl rfl ?_; walk_nrm)
    | (refine Run.op0 rfl rfl (by k_ne) (fun d K hK => by go_simp; exact hK) (fun d => by first | (simp [go_sem, *] <;> fail) | fail) ?_; try w_num)
    | refine Run.ret ?_
    | refine Run.fin ?_
    | refine Run.exit rfl ?_
  refine Run.con hSp rfl rfl (by k_ne) rfl (by first | (simp only [List.map_toArray, List.map_cons, List.map_nil]; done) | (simp only [List.map_toArray, List.map_cons, List.map_nil]; rfl)) (fun X4 v w4 hr => ?_)
  obtain ⟨n4, o4, ⟨-, rfl, ht4⟩ | ⟨hno, _, _⟩⟩ := hr
  rotate_left
  · exact absurd ⟨by decide, by decide, by decide⟩ hno
  have hN4 := hN3.trans n4
  have hO4 := hO3.keep o4 (by have := hO3.size; omega)
  have hT4 := n4.free hX3 hT3
  have hX4 := n4.ok hX3
  have hm4 : ∀ l : Loc, l.isMemory = false → X4.Sh l := fun l hl => n4.sub l (hm3 l hl)
  clear hSp hst hS3 hN3 hO3 hm3 hX3 ht3 hT3 o4 hbS
  have hD := draw_con (x := tl1.spread [(1, 2), (1, 3)]) (n := 3) (e := 2) hX4 hm4 hT4 ht4 (by decide) (by decide) (fun _ A => sorts6 A)
  walk_nrm
  repeat first
    | refine Run.seq ?_
    | refine Run.skip ?_
    | refine Run.regionEnd ?_
    | refine Run.block ?_
    | refine Run.inBlock ?_
    | (refine Run.region ?_; simp only [List.size_toArray, List.length_cons, List.length_nil, Nat.reduceAdd, Nat.zero_add, List.range, List.range.loop])
    | (refine Run.cond rfl ?_; simp only [if_true, if_false, Bool.false_eq_true, ↓reduceIte])
    | (refine Run.unwanted rfl rfl ?_; walk_nrm)
    | (refine Run.op0 rfl rfl (by k_ne) (fun d K hK => by go_simp; exact hK) (fun d => by first | (simp [go_sem, *] <;> fail) | fail) ?_; try w_num)
    | refine Run.ret ?_
    | refine Run.fin ?_
    | refine Run.exit rfl ?_
  refine Run.con hD rfl rfl (by k_ne) rfl (by first | (simp only [List.map_toArray, List.map_cons, List.map_nil]; done) | (simp only [List.map_toArray, List.map_cons, List.map_nil]; rfl)) (fun X5 v w5 hr => ?_)
  obtain ⟨n5, o5, ⟨-, A, hA1, hA2, hAf, rfl, ht5, har⟩ | ⟨hno, _, _⟩⟩ := hr
  rotate_left
  · exact absurd ⟨by decide, by decide, by decide, by decide⟩ hno
  have hN5 := hN4.trans n5
  have hO5 := hO4.keep o5 (by have := hO4.size; omega)
  have hT5 := n5.free hX4 hT4
  have hX5 := n5.ok hX4
  walk_nrm
  repeat first
    | refine Run.seq ?_
    | refine Run.skip ?_
    | refine Run.regionEnd ?_
    | refine Run.block ?_
    | refine Run.inBlock ?_
    | (refine Run.region ?_; simp only [List.size_toArray, List.length_cons, List.length_nil, Nat.reduceAdd, Nat.zero_add, List.range, List.range.loop])
    | (refine Run.cond rfl ?_; simp only [if_true, if_false, Bool.false_eq_true, ↓reduceIte])
    | (refine Run.unwanted rfl rfl ?_; walk_nrm)
    | (refine Run.op0 rfl rfl (by k_ne) (fun d K hK => by go_simp; exact hK) (fun d => by first | (simp [go_sem, *] <;> fail) | fail) ?_; try w_num)
    | refine Run.ret ?_
    | refine Run.fin ?_
    | refine Run.exit rfl ?_
  have ht5 : TlAt T tl5 w5 := ht5
  refine Run.con (get_con hT5.1 ht5 0) rfl rfl (by k_ne) rfl (by first | (simp only [List.map_toArray, List.map_cons, List.map_nil]; done) | (simp only [List.map_toArray, List.map_cons, List.map_nil]; rfl)) (fun X6 v w6 hr => ?_)
  obtain ⟨rfl, rfl, rfl⟩ := hr
  rw [tl5_0]
  walk_nrm
  repeat first
    | refine Run.seq ?_
    | refine Run.skip ?_
    | refine Run.regionEnd ?_
    | refine Run.block ?_
    | refine Run.inBlock ?_
    | (refine Run.region ?_; simp only [List.size_toArray, List.length_cons, List.length_nil, Nat.reduceAdd, Nat.zero_add, List.range, List.range.loop])
    | (refine Run.cond rfl ?_; simp only [if_true, if_false, Bool.false_eq_true, ↓reduceIte])
    | (refine Run.unwanted rfl rfl ?_; walk_nrm)
    | (refine Run.op0 rfl rfl (by k_ne) (fun d K hK => by go_simp; exact hK) (fun d => by first | (simp [go_sem, *] <;> fail) | fail) ?_; try w_num)
    | refine Run.ret ?_
    | refine Run.fin ?_
    | refine Run.exit rfl ?_
  refine Run.con (get_con hT5.1 ht5 1) rfl rfl (by k_ne) rfl (by first | (simp only [List.map_toArray, List.map_cons, List.map_nil]; done) | (simp only [List.map_toArray, List.map_cons, List.map_nil]; rfl)) (fun X7 v w7 hr => ?_)
  obtain ⟨rfl, rfl, rfl⟩ := hr
  rw [tl5_1]
  walk_nrm
  repeat first
    | refine Run.seq ?_
    | refine Run.skip ?_
    | refine Run.regionEnd ?_
    | refine Run.block ?_
    | refine Run.inBlock ?_
    | (refine Run.region ?_; simp only [List.size_toArray, List.length_cons, List.length_nil, Nat.reduceAdd, Nat.zero_add, List.range, List.range.loop])
    | (refine Run.cond rfl ?_; simp only [if_true, if_false, Bool.false_eq_true, ↓reduceIte])
    | (refine Run.unwanted rfl rfl ?_; walk_nrm)
    | (refine Run.op0 rfl rfl (by k_ne) (fun d K hK => by go_simp; exact hK) (fun d => by first | (simp [go_sem, *] <;> fail) | fail) ?_; try w_num)
    | refine Run.ret ?_
    | refine Run.fin ?_
    | refine Run.exit rfl ?_
  refine Run.con (most_con hT5.1 ht5) rfl rfl (by k_ne) rfl (by first | (simp only [List.map_toArray, List.map_cons, List.map_nil]; done) | (simp only [List.map_toArray, List.map_cons, List.map_nil]; rfl)) (fun X8 v w8 hr => ?_)
  obtain ⟨rfl, rfl, rfl⟩ := hr
  rw [tl5_m]
  walk_nrm
  repeat first
    | refine Run.seq ?_
    | refine Run.skip ?_
    | refine Run.regionEnd ?_
    | refine Run.block ?_
    | refine Run.inBlock ?_
    | (refine Run.region ?_; simp only [List.size_toArray, List.length_cons, List.length_nil, Nat.reduceAdd, Nat.zero_add, List.range, List.range.loop])
    | (refine Run.cond rfl ?_; simp only [if_true, if_false, Bool.false_eq_true, ↓reduceIte])
    | (refine Run.unwanted rfl rfl ?_; walk_nrm)
    | (refine Run.op0 rfl rfl (by k_ne) (fun d K hK => by go_simp; exact hK) (fun d => by first | (simp [go_sem, *] <;> fail) | fail) ?_; try w_num)
    | refine Run.ret ?_
    | refine Run.fin ?_
    | refine Run.exit rfl ?_
  refine Run.op (w8.alloc (.cells #[.int .i64 1, .int .i64 2, .int .i64 3, .int .i64 4, .int .i64 5, .int .i64 6] 2)) rfl rfl (by k_ne) (fun d K hK => by go_simp; exact hK) (fun d e he => by simp [go_sem, *] at he) ?_
  try w_num
  obtain ⟨B, hB⟩ : ∃ B, w8.heap.size = B := ⟨_, rfl⟩
  have hbB : (w8.alloc (.cells #[.int .i64 1, .int .i64 2, .int .i64 3, .int .i64 4, .int .i64 5, .int .i64 6] 2)).heap[B]? = some (.cells #[.int .i64 1, .int .i64 2, .int .i64 3, .int .i64 4, .int .i64 5, .int .i64 6] 2) := by
    rw [← hB]; unfold World.alloc; simp
  have hA9 : Off w8.heap.size w8 (w8.alloc (.cells #[.int .i64 1, .int .i64 2, .int .i64 3, .int .i64 4, .int .i64 5, .int .i64 6] 2)) := Off.alloc _ w8 _
  have hs9 : (w8.alloc (.cells #[.int .i64 1, .int .i64 2, .int .i64 3, .int .i64 4, .int .i64 5, .int .i64 6] 2)).heap.size = B + 1 := by rw [World.size_alloc, hB]
  simp only [hB]
  generalize w8.alloc (.cells #[.int .i64 1, .int .i64 2, .int .i64 3, .int .i64 4, .int .i64 5, .int .i64 6] 2) = w9 at hbB hA9 hs9 ⊢
  have hlow8 := hX5.low
  have hT8 := hT5.1
  have hO8 := hO5.size
  have hO9 := hO5.keep hA9 (by omega)
  have n9 : X8.Next w8 (X8.up w9.heap.size) w9 := Cx.next_up hX5 (by omega)
  have hN9 : X.Next w (X8.up w9.heap.size) w9 := hN5.trans n9
  refine Run.up w9.heap.size ?_
  have hT9 : (X8.up w9.heap.size).free T := n9.free hX5 hT5
  have hX9 := n9.ok hX5
  have hB9 : (X8.up w9.heap.size).free B := ⟨by rw [hN9.B]; omega, hX5.new B (by omega)⟩
  have hA9' : (X8.up w9.heap.size).free A := n9.free hX5 hAf
  have ht9 : TlAt T tl5 w9 := by
    unfold TlAt TalAt
    rw [hA9.block T (by omega) (by omega)]
    exact ht5
  have cA : ∀ i, i < 6 → w9.cell? ⟨A, i, none⟩ = some (.int .i64 ((tl1.spread [(1, 2), (1, 3)]).tick + 1 + (i : Int))) := fun i hi => (cell_heap (hA9.block A (by omega) (by omega))).trans (har.cell (k := i) hi)
  have cB : ∀ i, i < 6 → w9.cell? ⟨B, i, none⟩ = some (.int .i64 ((tl1.spread [(1, 2), (1, 3)]).tick + 1 + (i : Int))) := fun i hi => by
    rcases (by omega : i = 0 ∨ i = 1 ∨ i = 2 ∨ i = 3 ∨ i = 4 ∨ i = 5) with rfl | rfl | rfl | rfl | rfl | rfl <;> (unfold World.cell?; rw [hbB]; rfl)
  have hLo := longs_con (X := X8.up w9.heap.size) (c1 := 6) (c2 := 6) (N := 6) _ (by omega) hA9' hB9 cA cB
  clear hD har hA9 hbB cA cB n9 ht5 r6 e6
  generalize X8.up w9.heap.size = X9 at hN9 hT9 hX9 hLo ⊢
  repeat first
    | refine Run.seq ?_
    | refine Run.skip ?_
    | refine Run.regionEnd ?_
    | refine Run.block ?_
    | refine Run.inBlock ?_
    | (refine Run.region ?_; simp only [List.size_toArray, List.length_cons, List.length_nil, Nat.reduceAdd, Nat.zero_add, List.range, List.range.loop])
    | (refine Run.cond rfl ?_; simp only [if_true, if_false, Bool.false_eq_true, ↓reduceIte])
    | (refine Run.unwanted rfl rfl ?_; walk_nrm)
    | (refine Run.op0 rfl rfl (by k_ne) (fun d K hK => by go_simp; exact hK) (fun d => by first | (simp [go_sem, *] <;> fail) | fail) ?_; try w_num)
    | refine Run.ret ?_
    | refine Run.fin ?_
    | refine Run.exit rfl ?_
  refine Run.con hLo rfl rfl (by k_ne) rfl (by first | (simp only [List.map_toArray, List.map_cons, List.map_nil]; done) | (simp only [List.map_toArray, List.map_cons, List.map_nil]; rfl)) (fun X10 v w10 hr => ?_)
  obtain ⟨rfl, rfl, rfl⟩ := hr
  walk_nrm
  repeat first
    | refine Run.seq ?_
    | refine Run.skip ?_
    | refine Run.regionEnd ?_
    | refine Run.block ?_
    | refine Run.inBlock ?_
    | (refine Run.region ?_; simp only [List.size_toArray, List.length_cons, List.length_nil, Nat.reduceAdd, Nat.zero_add, List.range, List.range.loop])
    | (refine Run.cond rfl ?_; simp only [if_true, if_false, Bool.false_eq_true, ↓reduceIte])
    | (refine Run.unwanted rfl rfl ?_; walk_nrm)
    | (refine Run.op0 rfl rfl (by k_ne) (fun d K hK => by go_simp; exact hK) (fun d => by first | (simp [go_sem, *] <;> fail) | fail) ?_; try w_num)
    | refine Run.ret ?_
    | refine Run.fin ?_
    | refine Run.exit rfl ?_
  refine Run.con (ticket_con hT9.1 ht9) rfl rfl (by k_ne) rfl (by first | (simp only [List.map_toArray, List.map_cons, List.map_nil]; done) | (simp only [List.map_toArray, List.map_cons, List.map_nil]; rfl)) (fun X11 v w11 hr => ?_)
  obtain ⟨rfl, rfl, ht11, a11⟩ := hr
  have hO11 := hO9.keep (Off.of_aside a11) (by omega)
  have hN11 := hN9.of_same a11.size
  have hX11 := hN11.ok hX
  rw [show w64 (tl5.tick + 1) = 7 by decide]
  walk_nrm
  repeat first
    | refine Run.seq ?_
    | refine Run.skip ?_
    | refine Run.regionEnd ?_
    | refine Run.block ?_
    | refine Run.inBlock ?_
    | (refine Run.region ?_; simp only [List.size_toArray, List.length_cons, List.length_nil, Nat.reduceAdd, Nat.zero_add, List.range, List.range.loop])
    | (refine Run.cond rfl ?_; simp only [if_true, if_false, Bool.false_eq_true, ↓reduceIte])
    | (refine Run.unwanted rfl rfl ?_; walk_nrm)
    | (refine Run.op0 rfl rfl (by k_ne) (fun d K hK => by go_simp; exact hK) (fun d => by first | (simp [go_sem, *] <;> fail) | fail) ?_; try w_num)
    | refine Run.ret ?_
    | refine Run.fin ?_
    | refine Run.exit rfl ?_
  refine Run.con (first_new (n := 9) hX11 hT9 (by have := hX11.low; have := hT9.1; omega) ht11 rfl) rfl rfl (by k_ne) rfl (by first | (simp only [List.map_toArray, List.map_cons, List.map_nil]; done) | (simp only [List.map_toArray, List.map_cons, List.map_nil]; rfl)) (fun X12 v w12 hr => ?_)
  obtain ⟨rfl, rfl, _, o12⟩ := hr
  have hN12 := hN11.trans (Cx.next_up hX11 o12.size)
  have hO12 := hO11.keep o12 (by omega)
  walk_nrm
  repeat first
    | refine Run.seq ?_
    | refine Run.skip ?_
    | refine Run.regionEnd ?_
    | refine Run.block ?_
    | refine Run.inBlock ?_
    | (refine Run.region ?_; simp only [List.size_toArray, List.length_cons, List.length_nil, Nat.reduceAdd, Nat.zero_add, List.range, List.range.loop])
    | (refine Run.cond rfl ?_; simp only [if_true, if_false, Bool.false_eq_true, ↓reduceIte])
    | (refine Run.unwanted rfl rfl ?_; walk_nrm)
    | (refine Run.op0 rfl rfl (by k_ne) (fun d K hK => by go_simp; exact hK) (fun d => by first | (simp [go_sem, *] <;> fail) | fail) ?_; try w_num)
    | refine Run.ret ?_
    | refine Run.fin ?_
    | refine Run.exit rfl ?_
  refine Run.con (add_no (T := T) (i := 8) (d := 1) (by decide)) rfl rfl (by k_ne) rfl (by first | (simp only [List.map_toArray, List.map_cons, List.map_nil]; done) | (simp only [List.map_toArray, List.map_cons, List.map_nil]; rfl)) (fun X13 v w13 hr => ?_)
  obtain ⟨rfl, rfl, rfl⟩ := hr
  have hK := hK _ _ _ ⟨hN12, hO12, rfl⟩
  clear hLo hX11 hN11 hO11 ht11 a11 hN12 hO12 o12
  walk_nrm
  repeat first
    | refine Run.seq ?_
    | refine Run.skip ?_
    | refine Run.regionEnd ?_
    | refine Run.block ?_
    | refine Run.inBlock ?_
    | (refine Run.region ?_; simp only [List.size_toArray, List.length_cons, List.length_nil, Nat.reduceAdd, Nat.zero_add, List.range, List.range.loop])
    | (refine Run.cond rfl ?_; simp only [if_true, if_false, Bool.false_eq_true, ↓reduceIte])
    | (refine Run.unwanted rfl rfl ?_; walk_nrm)
    | (refine Run.op0 rfl rfl (by k_ne) (fun d K hK => by go_simp; exact hK) (fun d => by first | (simp [go_sem, *] <;> fail) | fail) ?_; try w_num)
    | refine Run.ret ?_
    | refine Run.fin ?_
    | refine Run.exit rfl ?_
  refine Run.leave1 rfl rfl Try.func8 rfl ?_
  exact hK
end
end Go.Proofs.Ytboiolnnhmlieaa.Gang
namespace Go.Proofs.Ytboiolnnhmlieaa.Gang
set_option linter.unusedVariables false
set_option linter.unusedSimpArgs false
/-- numbers from 0 to 2^30 -/
def Small (st : List (Nat × Int)) : Prop := ∀ s ∈ st, 0 ≤ s.2 ∧ s.2 ≤ 1073741824
theorem Small.tail {s : Nat × Int} {st : List (Nat × Int)} (h : Small (s :: st)) : Small st := fun x hx => h x (List.mem_cons_of_mem _ hx)
theorem lsum_bound (c : Nat) : ∀ {st : List (Nat × Int)}, Small st → 0 ≤ lsum c st ∧ lsum c st ≤ st.length * 1073741824
  | [], _ => by simp [lsum]
  | s :: st, h => by
    have := lsum_bound c h.tail
    have h1 := h s (List.mem_cons_self ..)
    rw [lsum, List.length_cons]
    split <;> omega
theorem lsum_ge (c : Nat) : ∀ {st : List (Nat × Int)}, Small st → ∀ s ∈ st, s.1 = c → s.2 ≤ lsum c st
  | [], _, s, hs, _ => by cases hs
  | x :: st, h, s, hs, e => by
    have h1 := h x (List.mem_cons_self ..)
    have h2 := lsum_bound c h.tail
    rw [lsum]
    rcases List.mem_cons.1 hs with rfl | hs
    · rw [if_pos e]; omega
    · have := lsum_ge c h.tail s hs e
      split <;> omega
theorem lmax_snoc (s : Nat × Int) : ∀ (l : List (Nat × Int)) (m : Int), lmax m (l ++ [s]) = if lmax m l < s.2 then s.2 else lmax m l
  | [], m => rfl
  | x :: l, m => by
    show lmax _ (l ++ [s]) = _
    rw [lmax_snoc s l]
    rfl
theorem spGoal_small {st : List (Nat × Int)} (h : Small st) (hl : st.length ≤ 4294967296) (c : Nat) : spGoal st ⟨fun _ => 0, 0⟩ c = lsum c st := by
  have := lsum_bound c h
  show w64 (0 + lsum c st) = _
  unfold w64
  omega
end Go.Proofs.Ytboiolnnhmlieaa.Gang
namespace Go.Proofs.Ytboiolnnhmlieaa.Gang
open Go.Conc Go.ConcN Go.RowKit Go.Conc.Lib Go.ConcR.Gen Go.ConcN.Gen
set_option linter.unusedVariables false
set_option linter.unusedSimpArgs false
section
variable {P : Program} {X : Cx}
/-- the first frame's return -/
theorem Run.end1 {b : Frame} {a : Act} {todo : List Item} {w : World} {t : Tmp} {fn : Func} (hX : X.d = 0) (hn : b.kind = .normal) (hd : a.defers = []) (hf : P.funcs[b.fn]? = some fn) (hr : fn.results = #[.tmp t]) (hi : P.inits.idxOf? b.fn = none) (hP : ∀ w₁, AtRel w w₁ → X.Post (a.tmps.getD t undef) w₁) :
    Run P X (G { b.at a todo with mode := .returning } []) w := by
  refine Run.done hX rfl (fun w₁ h₁ => ⟨#[], ?_, by simp, hP w₁ h₁⟩)
  simp [G, stepG, unwind, doReturn, Frame.at, hn, hd, hf, results, hr, seen, GStep.after]
  unfold Go.unwind
  simp [doReturn, hf, hr, results, hi, seen_none, GStep.after]
/-- the start -/
theorem Run.start {Post : Value → World → Prop} {g : Goroutine} {W : World} (h : Run P ⟨Post, fun l => l.isMemory = false, W.heap.size, 0, 0⟩ g W) : Ends P Post #[g] W none #[] := by
  refine h W (atRel_refl _) _ _ _ ⟨rfl, rfl, ⟨_, leavers_one P g⟩, ?_⟩
  exact ⟨fun said => by rintro ⟨i, j, _, ⟨a, b, ha, _⟩, _⟩; simp [Trace.act?] at ha, fun i a ha => by simp [touchAt, Trace.act?] at ha, fun i g hg => by simp [Trace.g?] at hg, rfl, by simp, fun i op x hi => by simp at hi, fun i op hi => by simp at hi, fun l hl => hl⟩
/-- the context at the start -/
def top (Post : Value → World → Prop) (W : World) : Cx := ⟨Post, fun l => l.isMemory = false, W.heap.size, 0, 0⟩
theorem top_ok (Post : Value → World → Prop) (W : World) : (top Post W).ok W := ⟨rfl, (fun b _ o h => by cases h), Nat.le_refl _⟩
theorem top_mem (Post : Value → World → Prop) (W : World) : ∀ l : Loc, l.isMemory = false → (top Post W).Sh l := fun _ h => h
theorem top_free (Post : Value → World → Prop) {W : World} {b : Nat} (h : b < W.heap.size) : (top Post W).free b := ⟨h, (fun o h => by cases h)⟩
end
end Go.Proofs.Ytboiolnnhmlieaa.Gang
