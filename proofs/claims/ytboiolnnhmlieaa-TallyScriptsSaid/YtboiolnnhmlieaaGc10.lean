
/-
  Goroutine 0 beside leavers: cmp.Less; bits.Len of six.
  Conditions: stated lemma by lemma.
-/
import Derived.Test.YtboiolnnhmlieaaGc9
import Derived.Test.YtboiolnnhmlieaaGc8
namespace Go.Proofs.Ytboiolnnhmlieaa.Gang
open Go.Conc Go.ConcN Go.RowKit Go.Conc.Lib Go.ConcR.Gen Go.ConcN.Gen
set_option linter.unusedVariables false
set_option linter.unusedSimpArgs false
theorem nm80 : (Try.f80.name == "runtime.NumGoroutine") = false := by kernel_rfl
theorem nm94 : (Try.f94.name == "runtime.NumGoroutine") = false := by kernel_rfl
theorem nm62 : (Try.f62.name == "runtime.NumGoroutine") = false := by kernel_rfl
theorem nm84 : (Try.f84.name == "runtime.NumGoroutine") = false := by kernel_rfl
theorem nm83 : (Try.f83.name == "runtime.NumGoroutine") = false := by kernel_rfl
theorem nm36 : (Try.f36.name == "runtime.NumGoroutine") = false := by kernel_rfl
theorem nm61 : (Try.f61.name == "runtime.NumGoroutine") = false := by kernel_rfl
theorem nm74 : (Try.f74.name == "runtime.NumGoroutine") = false := by kernel_rfl
section
variable {X : Cx} {w : World}
set_option maxRecDepth 100000 in
set_option maxHeartbeats 4000000 in
theorem nan_con (x : Int) : Con Try.prog X 94 #[.int .i64 x] w (fun X' v w' => X' = X ∧ w' = w ∧ v = .bool false) := by
  refine ⟨Try.f94, _, Try.func94, nm94, rfl, fun b₀ a₀ ops₀ n₀ rest₀ k₀ cs hK => ?_⟩
  walk_nrmf Try.f94
  repeat first
    | refine Run.seq ?_
    | refine Run.skip ?_
    | refine Run.regionEnd ?_
    | refine Run.block ?_
    | refine Run.inBlock ?_
    | (refine Run.region ?_; simp only [List.size_toArray, List.length_cons, List.length_nil, Nat.reduceAdd, Nat.zero_add, List.range, List.range.loop])
    | (refine Run.cond rfl ?_; simp only [if_true, if_false, Bool.false_eq_true, ↓reduceIte])
    | (refine Run.unwanted rfl rfl ?_; walk_nrm)
    | (refine Run.op0 rfl rfl (by k_ne) (fun d K hK => by go_simp; exact hK) (fun d => by first | (simp [go_sem, *] <;> fail) | fail) ?_; try w_num)
    | refine Run.ret ?_
    | refine Run.fin ?_
    | refine Run.exit rfl ?_
  refine Run.leave1 rfl rfl Try.func94 rfl ?_
  exact hK _ _ _ ⟨rfl, rfl, rfl⟩
set_option maxRecDepth 100000 in
set_option maxHeartbeats 4000000 in
theorem less_con (x y : Int) : Con Try.prog X 80 #[.int .i64 x, .int .i64 y] w (fun X' v w' => X' = X ∧ w' = w ∧ v = .bool (decide (x < y))) := by
  refine ⟨Try.f80, _, Try.func80, nm80, rfl, fun b₀ a₀ ops₀ n₀ rest₀ k₀ cs hK => ?_⟩
  walk_nrmf Try.f80
  repeat first
    | refine Run.seq ?_
    | refine Run.skip ?_
    | refine Run.regionEnd ?_
    | refine Run.block ?_
    | refine Run.inBlock ?_
    | (refine Run.region ?_; simp only [List.size_toArray, List.length_cons, List.length_nil, Nat.reduceAdd, Nat.zero_add, List.range, List.range.loop])
    | (refine Run.cond rfl ?_; simp only [if_true, if_false, Bool.false_eq_true, ↓reduceIte])
    | (refine Run.unwanted rfl rfl ?_; walk_nrm)
    | (refine Run.op0 rfl rfl (by k_ne) (fun d K hK => by go_simp; exact hK) (fun d => by first | (simp [go_sem, *] <;> fail) | fail) ?_; try w_num)
    | refine Run.ret ?_
    | refine Run.fin ?_
    | refine Run.exit rfl ?_
  refine Run.con (nan_con x) rfl rfl (by k_ne) rfl (by simp only [List.map_toArray, List.map_cons, List.map_nil]; rfl) (fun X' v w' hr => ?_)
  obtain ⟨rfl, rfl, rfl⟩ := hr
  walk_nrm
  repeat first
    | refine Run.seq ?_
    | refine Run.skip ?_
    | refine Run.regionEnd ?_
    | refine Run.block ?_
    | refine Run.inBlock ?_
    | (refine Run.region ?_; simp only [List.size_toArray, List.length_cons, List.length_nil, Nat.reduceAdd, Nat.zero_add, List.range, List.range.loop])
    | (refine Run.cond rfl ?_; simp only [if_true, if_false, Bool.false_eq_true, ↓reduceIte])
    | (refine Run.unwanted rfl rfl ?_; walk_nrm)
    | (refine Run.op0 rfl rfl (by k_ne) (fun d K hK => by go_simp; exact hK) (fun d => by first | (simp [go_sem, *] <;> fail) | fail) ?_; try w_num)
    | refine Run.ret ?_
    | refine Run.fin ?_
    | refine Run.exit rfl ?_
  refine Run.leave1 rfl rfl Try.func80 rfl ?_
  exact hK _ _ _ ⟨rfl, rfl, rfl⟩
theorem ev_idx6 (s : ByteArray) (h : 6 < s.size) (w : World) (es : Array Event) : (Instr.index 9 (.string s) (.int .u8 6)).events Try.prog w es = es := by
  have hu := Try.underlying9
  have h3 : (if (0:Int) ≤ 6 then s[(6:Int).toNat]? else none) = some s[6] := by rw [if_pos (by omega)]; exact ByteArray.getElem?_lt' s _ h
  simp only [Instr.index, asIntOf, Sem.events_bind, Sem.run_pure, Sem.events_pure, Result.evThen_ok, run_underlying hu, events_underlying, h3]
set_option maxRecDepth 100000 in
set_option maxHeartbeats 4000000 in
theorem len6_con : Con Try.prog X 62 #[.int .u64 6] w (fun X' v w' => X' = X ∧ w' = w ∧ v = .int .i64 3) := by
  refine ⟨Try.f62, _, Try.func62, nm62, rfl, fun b₀ a₀ ops₀ n₀ rest₀ k₀ cs hK => ?_⟩
  walk_nrmf Try.f62
  repeat first
    | refine Run.seq ?_
    | refine Run.skip ?_
    | refine Run.regionEnd ?_
    | refine Run.block ?_
    | refine Run.inBlock ?_
    | (refine Run.region ?_; simp only [List.size_toArray, List.length_cons, List.length_nil, Nat.reduceAdd, Nat.zero_add, List.range, List.range.loop])
    | (refine Run.cond rfl ?_; simp only [if_true, if_false, Bool.false_eq_true, ↓reduceIte])
    | (refine Run.unwanted rfl rfl ?_; walk_nrm)
    | (refine Run.op0 rfl rfl (by k_ne) (fun d K hK => by go_simp; exact hK) (fun d => by first | (simp [go_sem, *] <;> fail) | fail) ?_; try w_num)
    | refine Run.ret ?_
    | refine Run.fin ?_
    | refine Run.exit rfl ?_
    | (refine Run.call rfl rfl (by k_ne) rfl Try.func84 nm84 rfl ?_; walk_nrmf Try.f84)
    | (refine Run.call rfl rfl (by k_ne) rfl Try.func83 nm83 rfl ?_; walk_nrmf Try.f83)
    | (refine Run.leave1 rfl rfl Try.func84 rfl ?_; walk_nrm)
    | (refine Run.leave1 rfl rfl Try.func83 rfl ?_; walk_nrm)
  rw [show IntKind.u8.wrap 6 = 6 from rfl]
  repeat first
    | refine Run.seq ?_
    | refine Run.skip ?_
    | refine Run.regionEnd ?_
    | refine Run.block ?_
    | refine Run.inBlock ?_
    | (refine Run.region ?_; simp only [List.size_toArray, List.length_cons, List.length_nil, Nat.reduceAdd, Nat.zero_add, List.range, List.range.loop])
    | (refine Run.cond rfl ?_; simp only [if_true, if_false, Bool.false_eq_true, ↓reduceIte])
    | (refine Run.unwanted rfl rfl ?_; walk_nrm)
    | (refine Run.op0 rfl rfl (by k_ne) (fun d K hK => by go_simp; exact hK) (fun d => by first | (simp [go_sem, *] <;> fail) | fail) ?_; try w_num)
    | refine Run.ret ?_
    | refine Run.fin ?_
    | refine Run.exit rfl ?_
    | (refine Run.call rfl rfl (by k_ne) rfl Try.func84 nm84 rfl ?_; walk_nrmf Try.f84)
    | (refine Run.call rfl rfl (by k_ne) rfl Try.func83 nm83 rfl ?_; walk_nrmf Try.f83)
    | (refine Run.leave1 rfl rfl Try.func84 rfl ?_; walk_nrm)
    | (refine Run.leave1 rfl rfl Try.func83 rfl ?_; walk_nrm)
  refine Run.op0 (a' := ⟨#[.int .u64 6, undef, .int .i64 0, .int .u64 6, .bool false, undef, undef, .int .u64 6, .bool false, undef, undef, undef, undef, .int .u64 6, .bool false, undef, undef, undef, undef, .int .i64 0, .int .u64 6, .int .u8 6, .int .u8 3, undef, undef], []⟩) rfl rfl (by k_ne) (fun d K hK => by go_simp; exact hK) (fun d => by
    simp [go_sem]
    exact ev_idx6 _ (by decide) _ _) ?_
  try w_num
  repeat first
    | refine Run.seq ?_
    | refine Run.skip ?_
    | refine Run.regionEnd ?_
    | refine Run.block ?_
    | refine Run.inBlock ?_
    | (refine Run.region ?_; simp only [List.size_toArray, List.length_cons, List.length_nil, Nat.reduceAdd, Nat.zero_add, List.range, List.range.loop])
    | (refine Run.cond rfl ?_; simp only [if_true, if_false, Bool.false_eq_true, ↓reduceIte])
    | (refine Run.unwanted rfl rfl ?_; walk_nrm)
    | (refine Run.op0 rfl rfl (by k_ne) (fun d K hK => by go_simp; exact hK) (fun d => by first | (simp [go_sem, *] <;> fail) | fail) ?_; try w_num)
    | refine Run.ret ?_
    | refine Run.fin ?_
    | refine Run.exit rfl ?_
    | (refine Run.call rfl rfl (by k_ne) rfl Try.func84 nm84 rfl ?_; walk_nrmf Try.f84)
    | (refine Run.call rfl rfl (by k_ne) rfl Try.func83 nm83 rfl ?_; walk_nrmf Try.f83)
    | (refine Run.leave1 rfl rfl Try.func84 rfl ?_; walk_nrm)
    | (refine Run.leave1 rfl rfl Try.func83 rfl ?_; walk_nrm)
  refine Run.leave1 rfl rfl Try.func62 rfl ?_
  exact hK _ _ _ ⟨rfl, rfl, rfl⟩
end
end Go.Proofs.Ytboiolnnhmlieaa.Gang
