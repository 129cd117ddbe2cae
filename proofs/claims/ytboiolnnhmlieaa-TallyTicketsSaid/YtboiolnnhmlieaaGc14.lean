
/-
  Goroutine 0 beside leavers: longs of two equal lists.
  Conditions: stated lemma by lemma.
-/
import Derived.Test.YtboiolnnhmlieaaGc13
namespace Go.Proofs.Ytboiolnnhmlieaa.Gang
open Go.Conc Go.ConcN Go.RowKit Go.Conc.Lib Go.ConcR.Gen Go.ConcN.Gen
set_option linter.unusedVariables false
set_option linter.unusedSimpArgs false
theorem nm19 : (Try.f19.name == "runtime.NumGoroutine") = false := by kernel_rfl
noncomputable def loop19 : Code := match Try.f19.body.getD .skip with | .seq _ (.seq _ (.seq (.seq _ (.block _ (.loop c))) _)) => c | .seq _ (.seq _ (.seq _ (.seq (.block _ (.loop c)) _))) => c | _ => .skip
noncomputable def tail19 : Code := match Try.f19.body.getD .skip with | .seq _ (.seq _ (.seq (.seq _ (.block _ (.loop _))) c)) => c | .seq _ (.seq _ (.seq _ (.seq (.block _ (.loop _)) c))) => c | _ => .skip
section
variable {X : Cx} {w : World}
set_option maxRecDepth 100000 in
set_option maxHeartbeats 8000000 in
theorem longs_loop {A B N c1 c2 : Nat} (f : Nat → Int) (hN : N ≤ 1099511627776) (hA : X.free A) (hB : X.free B) (cA : ∀ i, i < N → w.cell? ⟨A, i, none⟩ = some (.int .i64 (f i))) (cB : ∀ i, i < N → w.cell? ⟨B, i, none⟩ = some (.int .i64 (f i)))
    {b : Frame} {a : Act} {K : List Item} {cs : List Frame} {ops : Array Oper} {i : Nat} {rest : List Nat} (hK : Run Try.prog X (G (b.at (a.put ((ops[i]?).bind (·.dst)) (.bool true)) (.inRegion ops rest :: K)) cs) w) : ∀ (m k : Nat), k + m = N → ∀ (y2 y3 y6 y7 y8 y9 y10 y11 y12 y13 y14 y15 y16 y17 y18 y19 y20 y21 y22 y23 y24 y25 : Value),
    Run Try.prog X (G ((base 19).at ⟨#[.slice (some ⟨A, 0, none⟩) N c1, .slice (some ⟨B, 0, none⟩) N c2, y2, y3, .bool false, .int .i64 (k : Int), y6, y7, y8, y9, y10, y11, y12, y13, y14, y15, y16, y17, y18, y19, y20, y21, y22, y23, y24, y25], []⟩ [.code loop19, .inLoop loop19, .inBlock 0, .code tail19]) (b.at a (.inRegion ops (i :: rest) :: K) :: cs)) w := by
  intro m
  induction m with
  | zero =>
    intro k hk y2 y3 y6 y7 y8 y9 y10 y11 y12 y13 y14 y15 y16 y17 y18 y19 y20 y21 y22 y23 y24 y25
    have hlt : decide ((k : Int) < (N : Int)) = false := decide_eq_false (by omega)
    have hlt' : decide (k < N) = false := decide_eq_false (by omega)
    simp only [loop19, tail19, Try.f19, Option.getD_some]
    clear cA cB
    repeat first
      | refine Run.seq ?_
      | refine Run.skip ?_
      | refine Run.regionEnd ?_
      | refine Run.block ?_
      | refine Run.inBlock ?_
      | (refine Run.region ?_; simp only [List.size_toArray, List.length_cons, List.length_nil, Nat.reduceAdd, Nat.zero_add, List.range, List.range.loop])
      | (refine Run.cond rfl ?_; simp only [if_true, if_false, Bool.false_eq_true, ↓reduceIte])
      | (refine Run.unwanted rfl rfl ?_; walk_nrm)
      | (refine Run.op0 rfl rfl (by k_ne) (fun d K hK => by go_simp; exact hK) (fun d => by first | (simp [go_sem, *] <;> fail) | fail) ?_; try w_num)
      | refine Run.ret ?_
      | refine Run.fin ?_
      | refine Run.exit rfl ?_
    refine Run.leave1 rfl rfl Try.func19 rfl ?_
    exact hK
  | succ m ih =>
    intro k hk y2 y3 y6 y7 y8 y9 y10 y11 y12 y13 y14 y15 y16 y17 y18 y19 y20 y21 y22 y23 y24 y25
    have hkN : k < N := by omega
    have hlt : decide ((k : Int) < (N : Int)) = true := decide_eq_true (by omega)
    have hlt' : decide (k < N) = true := decide_eq_true hkN
    have hki : (k : Int) < (N : Int) := by omega
    have ew : IntKind.i64.wrap ((k : Int) + 1) = ((k + 1 : Nat) : Int) := by rw [IntKind.wrap_i64]; omega
    have ck := cA k hkN
    have dk := cB k hkN
    have ih := ih (k + 1) (by omega)
    simp only [loop19, tail19, Try.f19, Option.getD_some] at ih ⊢
    clear cA cB
    repeat first
      | refine Run.seq ?_
      | refine Run.skip ?_
      | refine Run.regionEnd ?_
      | refine Run.block ?_
      | refine Run.inBlock ?_
      | (refine Run.region ?_; simp only [List.size_toArray, List.length_cons, List.length_nil, Nat.reduceAdd, Nat.zero_add, List.range, List.range.loop])
      | (refine Run.cond rfl ?_; simp only [if_true, if_false, Bool.false_eq_true, ↓reduceIte])
      | (refine Run.unwanted rfl rfl ?_; walk_nrm)
      | (refine Run.op0 rfl rfl (by k_ne) (fun d K hK => by go_simp; exact hK) (fun d => by first | (simp [go_sem, *] <;> fail) | fail) ?_; try w_num)
      | refine Run.ret ?_
      | refine Run.fin ?_
      | refine Run.exit rfl ?_
    refine Run.draw (by k_ne) rfl (fun a' w' => w' = w ∧ a' = ⟨#[.slice (some ⟨A, 0, none⟩) N c1, .slice (some ⟨B, 0, none⟩) N c2, y2, y3, .bool false, .int .i64 (k : Int), y6, y7, y8, y9, y10, .int .i64 (k : Int), .slice (some ⟨A, 0, none⟩) N c1, .int .i64 (N : Int), .bool true, y15, y16, .slice (some ⟨A, 0, none⟩) N c1, .int .i64 (k : Int), .pointer (some ⟨A, k, none⟩), .int .i64 (f k), .slice (some ⟨B, 0, none⟩) N c2, .int .i64 (k : Int), .pointer (some ⟨B, k, none⟩), .int .i64 (f k), .bool false], []⟩) (fun w' => w' = w) ?_ (fun a' w' hq => ?_)
    · simp only [List.size_toArray, List.length_cons, List.length_nil, Nat.reduceAdd, Nat.zero_add]
      refine anyR_take (i' := 0) rfl (by kernel_rfl) (by kernel_rfl) (by kernel_rfl) (by kernel_rfl) (fun w' hS => by
        have k1 : w'.cell? ⟨A, k, none⟩ = some (.int .i64 (f k)) := by rw [show w' = w from hS]; exact ck
        have k2 : w'.cell? ⟨B, k, none⟩ = some (.int .i64 (f k)) := by rw [show w' = w from hS]; exact dk
        exact .inl ⟨rfl, fun d => ⟨by go_simp; rfl, fun e he => by simp [go_sem, *] at he⟩⟩) ?_
      walk_nrm
      refine anyR_take (i' := 1) rfl (by kernel_rfl) (by kernel_rfl) (by kernel_rfl) (by kernel_rfl) (fun w' hS => by
        have k1 : w'.cell? ⟨A, k, none⟩ = some (.int .i64 (f k)) := by rw [show w' = w from hS]; exact ck
        have k2 : w'.cell? ⟨B, k, none⟩ = some (.int .i64 (f k)) := by rw [show w' = w from hS]; exact dk
        exact .inl ⟨rfl, fun d => ⟨by go_simp; rfl, fun e he => by simp [go_sem, *] at he⟩⟩) ?_
      walk_nrm
      refine anyR_take (i' := 2) rfl (by kernel_rfl) (by kernel_rfl) (by kernel_rfl) (by kernel_rfl) (fun w' hS => by
        have k1 : w'.cell? ⟨A, k, none⟩ = some (.int .i64 (f k)) := by rw [show w' = w from hS]; exact ck
        have k2 : w'.cell? ⟨B, k, none⟩ = some (.int .i64 (f k)) := by rw [show w' = w from hS]; exact dk
        exact .inl ⟨rfl, fun d => ⟨by go_simp; rfl, fun e he => by simp [go_sem, *] at he⟩⟩) ?_
      walk_nrm
      refine anyR_take (i' := 3) rfl (by kernel_rfl) (by kernel_rfl) (by kernel_rfl) (by kernel_rfl) (fun w' hS => by
        have k1 : w'.cell? ⟨A, k, none⟩ = some (.int .i64 (f k)) := by rw [show w' = w from hS]; exact ck
        have k2 : w'.cell? ⟨B, k, none⟩ = some (.int .i64 (f k)) := by rw [show w' = w from hS]; exact dk
        exact .inl ⟨rfl, fun d => ⟨by go_simp; rfl, fun e he => by simp [go_sem, *] at he; subst he; exact evL_free hA⟩⟩) ?_
      walk_nrm
      refine anyR_take (i' := 4) rfl (by kernel_rfl) (by kernel_rfl) (by kernel_rfl) (by kernel_rfl) (fun w' hS => by
        have k1 : w'.cell? ⟨A, k, none⟩ = some (.int .i64 (f k)) := by rw [show w' = w from hS]; exact ck
        have k2 : w'.cell? ⟨B, k, none⟩ = some (.int .i64 (f k)) := by rw [show w' = w from hS]; exact dk
        exact .inl ⟨rfl, fun d => ⟨by go_simp; rfl, fun e he => by simp [go_sem, *] at he⟩⟩) ?_
      walk_nrm
      refine anyR_take (i' := 5) rfl (by kernel_rfl) (by kernel_rfl) (by kernel_rfl) (by kernel_rfl) (fun w' hS => by
        have k1 : w'.cell? ⟨A, k, none⟩ = some (.int .i64 (f k)) := by rw [show w' = w from hS]; exact ck
        have k2 : w'.cell? ⟨B, k, none⟩ = some (.int .i64 (f k)) := by rw [show w' = w from hS]; exact dk
        exact .inl ⟨rfl, fun d => ⟨by go_simp; rfl, fun e he => by simp [go_sem, *] at he⟩⟩) ?_
      walk_nrm
      refine anyR_take (i' := 6) rfl (by kernel_rfl) (by kernel_rfl) (by kernel_rfl) (by kernel_rfl) (fun w' hS => by
        have k1 : w'.cell? ⟨A, k, none⟩ = some (.int .i64 (f k)) := by rw [show w' = w from hS]; exact ck
        have k2 : w'.cell? ⟨B, k, none⟩ = some (.int .i64 (f k)) := by rw [show w' = w from hS]; exact dk
        exact .inl ⟨rfl, fun d => ⟨by go_simp; rfl, fun e he => by simp [go_sem, *] at he⟩⟩) ?_
      walk_nrm
      refine anyR_take (i' := 7) rfl (by kernel_rfl) (by kernel_rfl) (by kernel_rfl) (by kernel_rfl) (fun w' hS => by
        have k1 : w'.cell? ⟨A, k, none⟩ = some (.int .i64 (f k)) := by rw [show w' = w from hS]; exact ck
        have k2 : w'.cell? ⟨B, k, none⟩ = some (.int .i64 (f k)) := by rw [show w' = w from hS]; exact dk
        exact .inl ⟨rfl, fun d => ⟨by go_simp; rfl, fun e he => by simp [go_sem, *] at he; subst he; exact evL_free hB⟩⟩) ?_
      walk_nrm
      refine anyR_take (i' := 8) rfl (by kernel_rfl) (by kernel_rfl) (by kernel_rfl) (by kernel_rfl) (fun w' hS => by
        have k1 : w'.cell? ⟨A, k, none⟩ = some (.int .i64 (f k)) := by rw [show w' = w from hS]; exact ck
        have k2 : w'.cell? ⟨B, k, none⟩ = some (.int .i64 (f k)) := by rw [show w' = w from hS]; exact dk
        exact .inl ⟨rfl, fun d => ⟨by go_simp; rfl, fun e he => by simp [go_sem, *] at he⟩⟩) ?_
      walk_nrm
      exact anyR_done (by kernel_rfl) rfl ⟨rfl, rfl⟩
    · obtain ⟨rfl, rfl⟩ := hq
      repeat first
        | refine Run.seq ?_
        | refine Run.skip ?_
        | refine Run.regionEnd ?_
        | refine Run.block ?_
        | refine Run.inBlock ?_
        | (refine Run.region ?_; simp only [List.size_toArray, List.length_cons, List.length_nil, Nat.reduceAdd, Nat.zero_add, List.range, List.range.loop])
        | (refine Run.cond rfl ?_; simp only [if_true, if_false, Bool.false_eq_true, ↓reduceIte])
        | (refine Run.unwanted rfl rfl ?_; walk_nrm)
        | (refine Run.op0 rfl rfl (by k_ne) (fun d K hK => by go_simp; exact hK) (fun d => by first | (simp [go_sem, *] <;> fail) | fail) ?_; try w_num)
        | refine Run.ret ?_
        | refine Run.fin ?_
        | refine Run.exit rfl ?_
      first | rw [ew] | rw [show (k : Int) + 1 = ((k + 1 : Nat) : Int) by omega]
      refine Run.inLoop ?_
      exact ih _ _ _ _ _ _ _ _ _ _ _ _ _ _ _ _ _ _ _ _ _ _
set_option maxRecDepth 100000 in
set_option maxHeartbeats 8000000 in
theorem longs_con {A B N c1 c2 : Nat} (f : Nat → Int) (hN : N ≤ 1099511627776) (hA : X.free A) (hB : X.free B) (cA : ∀ i, i < N → w.cell? ⟨A, i, none⟩ = some (.int .i64 (f i))) (cB : ∀ i, i < N → w.cell? ⟨B, i, none⟩ = some (.int .i64 (f i))) :
    Con Try.prog X 19 #[.slice (some ⟨A, 0, none⟩) N c1, .slice (some ⟨B, 0, none⟩) N c2] w (fun X' v w' => X' = X ∧ w' = w ∧ v = .bool true) := by
  refine ⟨Try.f19, _, Try.func19, nm19, rfl, fun b₀ a₀ ops₀ n₀ rest₀ k₀ cs hK => ?_⟩
  walk_nrmf Try.f19
  have hL := longs_loop (c1 := c1) (c2 := c2) f hN hA hB cA cB (b := b₀) (a := a₀) (K := k₀) (cs := cs) (ops := ops₀) (i := n₀) (rest := rest₀) (hK _ _ _ ⟨rfl, rfl, rfl⟩) N 0 (by omega)
  clear hK cA cB
  simp only [loop19, tail19, Try.f19, Option.getD_some] at hL
  repeat first
    | refine Run.seq ?_
    | refine Run.skip ?_
    | refine Run.regionEnd ?_
    | refine Run.block ?_
    | refine Run.inBlock ?_
    | (refine Run.region ?_; simp only [List.size_toArray, List.length_cons, List.length_nil, Nat.reduceAdd, Nat.zero_add, List.range, List.range.loop])
    | (refine Run.cond rfl ?_; simp only [if_true, if_false, Bool.false_eq_true, ↓reduceIte])
    | (refine Run.unwanted rfl rfl ?_; walk_nrm)
    | (refine Run.op0 rfl rfl (by k_ne) (fun d K hK => by go_simp; exact hK) (fun d => by first | (simp [go_sem, *] <;> fail) | fail) ?_; try w_num)
    | refine Run.ret ?_
    | refine Run.fin ?_
    | refine Run.exit rfl ?_
  refine Run.loop ?_
  exact hL _ _ _ _ _ _ _ _ _ _ _ _ _ _ _ _ _ _ _ _ _ _
end
end Go.Proofs.Ytboiolnnhmlieaa.Gang
