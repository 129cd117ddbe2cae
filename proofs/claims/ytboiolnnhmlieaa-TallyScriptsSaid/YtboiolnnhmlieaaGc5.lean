
/-
  Goroutine 0 beside leavers: the mutex, the flag, the once of a tally.
  Conditions: stated lemma by lemma.
-/
import Derived.Test.YtboiolnnhmlieaaGc3
import Derived.Test.YtboiolnnhmlieaaGc4
namespace Go.Proofs.Ytboiolnnhmlieaa.Gang
open Go.Conc Go.ConcN Go.RowKit Go.Conc.Lib Go.ConcR.Gen Go.ConcN.Gen
set_option linter.unusedVariables false
set_option linter.unusedSimpArgs false
theorem nm14 : (Try.f14.name == "runtime.NumGoroutine") = false := by kernel_rfl
theorem nm32 : (Try.f32.name == "runtime.NumGoroutine") = false := by kernel_rfl
theorem nm33 : (Try.f33.name == "runtime.NumGoroutine") = false := by kernel_rfl
theorem nm58 : (Try.f58.name == "runtime.NumGoroutine") = false := by kernel_rfl
theorem nm59 : (Try.f59.name == "runtime.NumGoroutine") = false := by kernel_rfl
theorem nm71 : (Try.f71.name == "runtime.NumGoroutine") = false := by kernel_rfl
theorem nm72 : (Try.f72.name == "runtime.NumGoroutine") = false := by kernel_rfl
theorem nm73 : (Try.f73.name == "runtime.NumGoroutine") = false := by kernel_rfl
theorem nm85 : (Try.f85.name == "runtime.NumGoroutine") = false := by kernel_rfl
theorem nm86 : (Try.f86.name == "runtime.NumGoroutine") = false := by kernel_rfl
theorem nm88 : (Try.f88.name == "runtime.NumGoroutine") = false := by kernel_rfl
theorem nm70 : (Try.f70.name == "runtime.NumGoroutine") = false := by kernel_rfl
theorem nm87 : (Try.f87.name == "runtime.NumGoroutine") = false := by kernel_rfl
theorem nm95 : (Try.f95.name == "runtime.NumGoroutine") = false := by kernel_rfl
theorem nm97 : (Try.f97.name == "runtime.NumGoroutine") = false := by kernel_rfl
theorem nm40 : (Try.f40.name == "runtime.NumGoroutine") = false := by kernel_rfl
theorem nm41 : (Try.f41.name == "runtime.NumGoroutine") = false := by kernel_rfl
theorem nm42 : (Try.f42.name == "runtime.NumGoroutine") = false := by kernel_rfl
theorem nm53 : (Try.f53.name == "runtime.NumGoroutine") = false := by kernel_rfl
theorem bd70 : Try.f70.body.isNone = true := by kernel_rfl
theorem nx70 : Extern.findNext Try.f70 = none := by kernel_rfl
theorem bd87 : Try.f87.body.isNone = true := by kernel_rfl
theorem nx87 : Extern.findNext Try.f87 = none := by kernel_rfl
theorem bd95 : Try.f95.body.isNone = true := by kernel_rfl
theorem nx95 : Extern.findNext Try.f95 = none := by kernel_rfl
theorem bd97 : Try.f97.body.isNone = true := by kernel_rfl
theorem nx97 : Extern.findNext Try.f97 = none := by kernel_rfl
theorem bd40 : Try.f40.body.isNone = true := by kernel_rfl
theorem nx40 : Extern.findNext Try.f40 = none := by kernel_rfl
theorem bd41 : Try.f41.body.isNone = true := by kernel_rfl
theorem nx41 : Extern.findNext Try.f41 = none := by kernel_rfl
theorem bd42 : Try.f42.body.isNone = true := by kernel_rfl
theorem nx42 : Extern.findNext Try.f42 = none := by kernel_rfl
theorem bd53 : Try.f53.body.isNone = true := by kernel_rfl
theorem nx53 : Extern.findNext Try.f53 = none := by kernel_rfl
theorem ex70 : Extern.find Try.f70 = some (Extern.Atomic.loadT (.int .u32)) := by kernel_rfl
theorem ex87 : Extern.find Try.f87 = some Extern.Atomic.storeT := by kernel_rfl
theorem ex95 : Extern.find Try.f95 = some (Extern.Atomic.casT (.int .i32)) := by kernel_rfl
theorem ex97 : Extern.find Try.f97 = some (Extern.Atomic.update (Op.intArith .add) .i32 true) := by kernel_rfl
theorem ex40 : Extern.find Try.f40 = some (Extern.Race.marked .releaseMerge) := by kernel_rfl
theorem ex41 : Extern.find Try.f41 = some (fun _ => do mark .disable; pure Extern.Race.none_) := by kernel_rfl
theorem ex42 : Extern.find Try.f42 = some (fun _ => do mark .enable; pure Extern.Race.none_) := by kernel_rfl
theorem ex53 : Extern.find Try.f53 = some (Extern.Race.marked .acquire) := by kernel_rfl
/-- the tally's block, its mutex in state st -/
def TlM (T : Nat) (x : Tl) (st : Int) (w : World) : Prop := TalAt 67 T [.int .i64 x.tick, .int .u32 (if x.done then 1 else 0), .int .i32 st, .int .u32 0, .int .i64 x.word] ⟨x.cs, x.most⟩ w
section
variable {T : Nat} {x : Tl} {st : Int} {w : World}
theorem TlM.cellDone (h : TlM T x st w) : w.cell? ⟨T, 10, none⟩ = some (.int .u32 (if x.done then 1 else 0)) := by
  unfold TlM TalAt at h
  simp [World.cell?, h]
theorem TlM.cellState (h : TlM T x st w) : w.cell? ⟨T, 11, none⟩ = some (.int .i32 st) := by
  unfold TlM TalAt at h
  simp [World.cell?, h]
theorem TlM.cellWord (h : TlM T x st w) : w.cell? ⟨T, 13, none⟩ = some (.int .i64 x.word) := by
  unfold TlM TalAt at h
  simp [World.cell?, h]
theorem TlM.setState (h : TlM T x st w) (v : Int) : TlM T x v (w.setCell ⟨T, 11, none⟩ (.int .i32 v)) := by
  unfold TlM TalAt at h ⊢
  rw [setCell_eq_setRow w T 11 _ 67 (0, 0) _ h, setRow_heap w T _ _ 67 _ h]
  simp
theorem TlM.setDone (h : TlM T x st w) : TlM T { x with done := true } st (w.setCell ⟨T, 10, none⟩ (.int .u32 1)) := by
  unfold TlM TalAt at h ⊢
  rw [setCell_eq_setRow w T 10 _ 67 (0, 0) _ h, setRow_heap w T _ _ 67 _ h]
  simp
theorem TlM.setWord (h : TlM T x st w) (v : Int) : TlM T { x with word := v } st (w.setCell ⟨T, 13, none⟩ (.int .i64 v)) := by
  unfold TlM TalAt at h ⊢
  rw [setCell_eq_setRow w T 13 _ 67 (0, 0) _ h, setRow_heap w T _ _ 67 _ h]
  simp
theorem TlM.thaw (h : TlM T x st w) (c : Nat) : w.frozen? ⟨T, c, none⟩ = false := TalAt.thaw h c
end
section
variable {P : Program} {X : Cx} {b : Frame} {a : Act} {k : List Item} {cs : List Frame} {w : World}
theorem Run.defer {ops : Array Oper} {n : Nat} {rest : List Nat} {o : Oper} {f : FuncId} {as' : Array Operand} {ats : Array TypeId} (ho : ops[n]? = some o) (hw : Region.wanted o (yielded ops a.tmps) = true) (hk : b.kind ≠ .early)
    (hop : o.op = .defer { callee := .value (.func f), args := as', argTypes := ats }) (h : Run P X (G (b.at (Act.put ⟨a.tmps, dcall f (as'.map a.eval) :: a.defers⟩ o.dst undef) (.inRegion ops rest :: k)) cs) w) :
    Run P X (G (b.at a (.inRegion ops (n :: rest) :: k)) cs) w := Run.idle rfl (fun _ => stepG_defer ho hw hk hop) h
section
variable {fn : Func} {todo : List Item} {ds : List Deferred} {f : FuncId} {args : Array Value} {c : Code}
theorem Run.unwind (hd : a.defers = dcall f args :: ds) (hf : P.funcs[f]? = some fn) (hname : (fn.name == "runtime.NumGoroutine") = false) (hb : fn.body = some c)
    (h : Run P X (G ((baseD f).at { tmps := args ++ Array.replicate (fn.ntmps - args.size) undef, defers := [] } [.code c]) ({ b.at ⟨a.tmps, ds⟩ todo with mode := .returning } :: cs)) w) : Run P X (G { b.at a todo with mode := .returning } cs) w :=
  Run.idle rfl (fun _ => stepG_unwind_enter hd hf hname hb) h
theorem Run.leaveD {c : Frame} (hn : b.kind = .deferred) (hd : a.defers = []) (hf : P.funcs[b.fn]? = some fn) (hr : fn.results = #[]) (hc : c.mode = .returning) (h : Run P X (G c cs) w) : Run P X (G { b.at a todo with mode := .returning } (c :: cs)) w :=
  Run.idle rfl (fun w₁ => stepG_leave_deferred hn hd hf (results_none hr _ P w₁) (events_results_none hr _ _) hc) h
end
/-- a call of a function value -/
theorem Run.callv {ops : Array Oper} {n : Nat} {rest : List Nat} {o : Oper} {f : FuncId} {fn : Func} {c : Code} {y : Operand} {args : Array Operand} {ats : Array TypeId} {cap : Array Value}
    (ho : ops[n]? = some o) (hw : Region.wanted o (yielded ops a.tmps) = true) (hk : b.kind ≠ .early) (hop : o.op = .call { callee := .value y, args, argTypes := ats }) (hy : a.eval y = .func (.func f) #[] cap)
    (hf : P.funcs[f]? = some fn) (hname : (fn.name == "runtime.NumGoroutine") = false) (hb : fn.body = some c)
    (h : Run P X (G ((base f).at { tmps := args.map a.eval ++ cap ++ Array.replicate (fn.ntmps - (args.map a.eval ++ cap).size) undef, defers := [] } [.code c]) (b.at a (.inRegion ops (n :: rest) :: k) :: cs)) w) :
    Run P X (G (b.at a (.inRegion ops (n :: rest) :: k)) cs) w := by
  have h1 : ¬ fn.name = "runtime.NumGoroutine" := by simpa using hname
  have h2 : ¬ fn.body = none := by cases hx : fn.body <;> simp_all
  have hr : ∀ w : World, (execOp a.eval o).run P w = .ok (.enter f (args.map a.eval ++ cap)) w := fun w => by
    unfold execOp
    simp [hop, resolve, Deferred.ofValue, invoke, callFunc, hf, h1, h2, hy]
  have he : ∀ w : World, (execOp a.eval o).events P w #[] = #[] := fun w => by
    unfold execOp
    simp [hop, resolve, Deferred.ofValue, invoke, callFunc, hf, h1, h2, hy]
  refine Run.idle rfl (fun w₁ => ?_) h
  rw [stepG_enter ho hw hk (hr w₁), enter_at _ hf hb, listed_nil (he w₁)]
end
section
variable {X : Cx} {T : Nat} {x : Tl} {w : World}
theorem cx_back (n : Nat) : ({ ({ X with d := X.d + 1 } : Cx) with d := X.d } : Cx) = X := rfl
set_option maxRecDepth 100000 in
set_option maxHeartbeats 4000000 in
theorem lock_con (hB : T < X.B) (h : TlM T x 0 w) : Con Try.prog X 71 #[.pointer (some ⟨T, 11, none⟩)] w (fun X' v w' => X' = X ∧ w' = w.setCell ⟨T, 11, none⟩ (.int .i32 1)) := by
  refine ⟨Try.f71, _, Try.func71, nm71, rfl, fun b₀ a₀ ops₀ n₀ rest₀ k₀ cs hK => ?_⟩
  walk_nrmf Try.f71
  repeat first
    | refine Run.seq ?_
    | refine Run.skip ?_
    | refine Run.regionEnd ?_
    | refine Run.block ?_
    | refine Run.inBlock ?_
    | (refine Run.region ?_; simp only [List.size_toArray, List.length_cons, List.length_nil, Nat.reduceAdd, Nat.zero_add, List.range, List.range.loop])
    | (refine Run.cond rfl ?_; simp only [if_true, if_false, Bool.false_eq_true, ↓reduceIte])
    | (refine Run.unwanted rfl rfl ?_; walk_nrm)
    | (refine Run.says .disable rfl (fun w₁ h₁ => stepG_mark0 .disable (by simp) rfl rfl (by k_ne) rfl Try.func41 nm41 bd41 nx41 ex41) trivial (fun _ e => by cases e) (fun _ e => by cases e) ?_; rw [deaf_dis]; walk_nrm)
    | (refine Run.op0 rfl rfl (by k_ne) (fun d K hK => by go_simp; exact hK) (fun d => by simp [go_sem, *] <;> fail) ?_; try w_num)
    | refine Run.ret ?_
    | refine Run.fin ?_
    | refine Run.exit rfl ?_
    | (refine Run.call rfl rfl (by k_ne) rfl Try.func85 nm85 rfl ?_; walk_nrmf Try.f85)
  refine Run.casAt rfl rfl (by k_ne) rfl Try.func95 nm95 bd95 nx95 .i32 ex95 rfl rfl rfl h.cellState (h.thaw 11) hB ?_
  have h2 := h.setState 1
  obtain ⟨w2, hw2⟩ : ∃ w2, w2 = w.setCell ⟨T, 11, none⟩ (.int .i32 1) := ⟨_, rfl⟩
  rw [← hw2] at h2 hK ⊢
  walk_nrm
  have hcv : ∀ d, (convert 134 84 (.pointer (some ⟨T, 11, none⟩))).run Try.prog (w2.at d) = .ok (.pointer (some ⟨T, 11, none⟩)) (w2.at d) := fun d => run_convert_to_unsafe Try.underlying134 Try.underlying84 (by kernel_rfl) (w := w2.at d) h2.cellState
  have hce : ∀ d es, (convert 134 84 (.pointer (some ⟨T, 11, none⟩))).events Try.prog (w2.at d) es = es := fun d es => events_convert_to_unsafe Try.underlying134 Try.underlying84 (by kernel_rfl) (w := w2.at d) h2.cellState es
  clear h hw2
  repeat first
    | refine Run.seq ?_
    | refine Run.skip ?_
    | refine Run.regionEnd ?_
    | refine Run.block ?_
    | refine Run.inBlock ?_
    | (refine Run.region ?_; simp only [List.size_toArray, List.length_cons, List.length_nil, Nat.reduceAdd, Nat.zero_add, List.range, List.range.loop])
    | (refine Run.cond rfl ?_; simp only [if_true, if_false, Bool.false_eq_true, ↓reduceIte])
    | (refine Run.unwanted rfl rfl ?_; walk_nrm)
    | (refine Run.says .enable rfl (fun w₁ h₁ => stepG_mark0 .enable (by simp) rfl rfl (by k_ne) rfl Try.func42 nm42 bd42 nx42 ex42) trivial (fun _ e => by cases e) (fun _ e => by cases e) ?_; rw [deaf_en]; change Run _ X _ _; walk_nrm)
    | (refine Run.says (.acquire ⟨T, 11, none⟩) rfl (fun w₁ h₁ => stepG_markAt .acquire (by simp) rfl rfl (by k_ne) rfl Try.func53 nm53 bd53 nx53 ex53 (ad := ⟨T, 11, none⟩) (by simp [Act.eval])) hB (fun _ e => by cases e) (fun _ e => by cases e) ?_; rw [deaf_acq]; change Run _ X _ _; walk_nrm)
    | (refine Run.op0 rfl rfl (by k_ne) (fun d K hK => by go_simp; exact hK) (fun d => by simp [go_sem, *] <;> fail) ?_; try w_num)
    | refine Run.ret ?_
    | refine Run.fin ?_
    | refine Run.exit rfl ?_
    | (refine Run.leave0 rfl rfl Try.func85 rfl ?_; walk_nrm)
    | (refine Run.leave0 rfl rfl Try.func71 rfl ?_; walk_nrm)
  exact hK _ _ _ ⟨rfl, rfl⟩
set_option maxRecDepth 100000 in
set_option maxHeartbeats 4000000 in
theorem unlock_con (hB : X.free T) (h : TlM T x 1 w) : Con Try.prog X 86 #[.pointer (some ⟨T, 11, none⟩)] w (fun X' v w' => X' = X ∧ w' = w.setCell ⟨T, 11, none⟩ (.int .i32 0)) := by
  have hc := h.cellState
  have hcv : ∀ d, (convert 134 84 (.pointer (some ⟨T, 11, none⟩))).run Try.prog (w.at d) = .ok (.pointer (some ⟨T, 11, none⟩)) (w.at d) := fun d => run_convert_to_unsafe Try.underlying134 Try.underlying84 (by kernel_rfl) (w := w.at d) hc
  have hce : ∀ d es, (convert 134 84 (.pointer (some ⟨T, 11, none⟩))).events Try.prog (w.at d) es = es := fun d es => events_convert_to_unsafe Try.underlying134 Try.underlying84 (by kernel_rfl) (w := w.at d) hc es
  refine ⟨Try.f86, _, Try.func86, nm86, rfl, fun b₀ a₀ ops₀ n₀ rest₀ k₀ cs hK => ?_⟩
  walk_nrmf Try.f86
  repeat first
    | refine Run.seq ?_
    | refine Run.skip ?_
    | refine Run.regionEnd ?_
    | refine Run.block ?_
    | refine Run.inBlock ?_
    | (refine Run.region ?_; simp only [List.size_toArray, List.length_cons, List.length_nil, Nat.reduceAdd, Nat.zero_add, List.range, List.range.loop])
    | (refine Run.cond rfl ?_; simp only [if_true, if_false, Bool.false_eq_true, ↓reduceIte])
    | (refine Run.unwanted rfl rfl ?_; walk_nrm)
    | (refine Run.op w rfl rfl (by k_ne) (fun d K hK => by go_simp; exact hK) (fun d e he => by simp [go_sem, *] at he; subst he; exact evL_free hB) ?_; try w_num)
    | (refine Run.says .disable rfl (fun w₁ h₁ => stepG_mark0 .disable (by simp) rfl rfl (by k_ne) rfl Try.func41 nm41 bd41 nx41 ex41) trivial (fun _ e => by cases e) (fun _ e => by cases e) ?_; rw [deaf_dis]; walk_nrm)
    | (refine Run.says (.releaseMerge ⟨T, 11, none⟩) rfl (fun w₁ h₁ => stepG_markAt .releaseMerge (by simp) rfl rfl (by k_ne) rfl Try.func40 nm40 bd40 nx40 ex40 (ad := ⟨T, 11, none⟩) (by simp [Act.eval])) hB.1 (fun _ e => by cases e) (fun _ e => by cases e) ?_; rw [deaf_rel]; change Run _ X _ _; walk_nrm)
    | (refine Run.op0 rfl rfl (by k_ne) (fun d K hK => by go_simp; exact hK) (fun d => by simp [go_sem, *] <;> fail) ?_; try w_num)
    | refine Run.ret ?_
    | refine Run.fin ?_
    | refine Run.exit rfl ?_
  refine Run.addAt rfl rfl (by k_ne) rfl Try.func97 nm97 bd97 nx97 .i32 ex97 rfl rfl h.cellState (h.thaw 11) hB.1 ?_
  rw [show IntKind.i32.wrap (1 + -1) = 0 from rfl]
  walk_nrm
  clear hcv hce hc
  repeat first
    | refine Run.seq ?_
    | refine Run.skip ?_
    | refine Run.regionEnd ?_
    | refine Run.block ?_
    | refine Run.inBlock ?_
    | (refine Run.region ?_; simp only [List.size_toArray, List.length_cons, List.length_nil, Nat.reduceAdd, Nat.zero_add, List.range, List.range.loop])
    | (refine Run.cond rfl ?_; simp only [if_true, if_false, Bool.false_eq_true, ↓reduceIte])
    | (refine Run.unwanted rfl rfl ?_; walk_nrm)
    | (refine Run.says .enable rfl (fun w₁ h₁ => stepG_mark0 .enable (by simp) rfl rfl (by k_ne) rfl Try.func42 nm42 bd42 nx42 ex42) trivial (fun _ e => by cases e) (fun _ e => by cases e) ?_; rw [deaf_en]; change Run _ X _ _; walk_nrm)
    | (refine Run.op0 rfl rfl (by k_ne) (fun d K hK => by go_simp; exact hK) (fun d => by simp [go_sem, *] <;> fail) ?_; try w_num)
    | refine Run.ret ?_
    | refine Run.fin ?_
    | refine Run.exit rfl ?_
    | (refine Run.leave0 rfl rfl Try.func86 rfl ?_; walk_nrm)
  exact hK _ _ _ ⟨rfl, rfl⟩
set_option maxRecDepth 100000 in
set_option maxHeartbeats 4000000 in
theorem flag_con {st : Int} (hB : T < X.B) (h : TlM T x st w) : Con Try.prog X 58 #[.pointer (some ⟨T, 10, none⟩)] w (fun X' v w' => X' = X ∧ w' = w ∧ v = .bool x.done) := by
  refine ⟨Try.f58, _, Try.func58, nm58, rfl, fun b₀ a₀ ops₀ n₀ rest₀ k₀ cs hK => ?_⟩
  walk_nrmf Try.f58
  repeat first
    | refine Run.seq ?_
    | refine Run.skip ?_
    | refine Run.regionEnd ?_
    | refine Run.block ?_
    | refine Run.inBlock ?_
    | (refine Run.region ?_; simp only [List.size_toArray, List.length_cons, List.length_nil, Nat.reduceAdd, Nat.zero_add, List.range, List.range.loop])
    | (refine Run.cond rfl ?_; simp only [if_true, if_false, Bool.false_eq_true, ↓reduceIte])
    | (refine Run.unwanted rfl rfl ?_; walk_nrm)
    | (refine Run.op0 rfl rfl (by k_ne) (fun d K hK => by go_simp; exact hK) (fun d => by simp [go_sem, *] <;> fail) ?_; try w_num)
    | refine Run.ret ?_
    | refine Run.fin ?_
    | refine Run.exit rfl ?_
  refine Run.loadAt rfl rfl (by k_ne) rfl Try.func70 nm70 bd70 nx70 .u32 ex70 rfl h.cellDone hB ?_
  cases hd : x.done with
  | false =>
    rw [hd] at hK
    simp only [Bool.false_eq_true, if_false]
    walk_nrm
    repeat first
      | refine Run.seq ?_
      | refine Run.skip ?_
      | refine Run.regionEnd ?_
      | refine Run.block ?_
      | refine Run.inBlock ?_
      | (refine Run.region ?_; simp only [List.size_toArray, List.length_cons, List.length_nil, Nat.reduceAdd, Nat.zero_add, List.range, List.range.loop])
      | (refine Run.cond rfl ?_; simp only [if_true, if_false, Bool.false_eq_true, ↓reduceIte])
      | (refine Run.unwanted rfl rfl ?_; walk_nrm)
      | (refine Run.op0 rfl rfl (by k_ne) (fun d K hK => by go_simp; exact hK) (fun d => by simp [go_sem, *] <;> fail) ?_; try w_num)
      | refine Run.ret ?_
      | refine Run.fin ?_
      | refine Run.exit rfl ?_
      | (refine Run.leave1 rfl rfl Try.func58 rfl ?_; walk_nrm)
    exact hK _ _ _ ⟨rfl, rfl, rfl⟩
  | true =>
    rw [hd] at hK
    simp only [if_true]
    walk_nrm
    repeat first
      | refine Run.seq ?_
      | refine Run.skip ?_
      | refine Run.regionEnd ?_
      | refine Run.block ?_
      | refine Run.inBlock ?_
      | (refine Run.region ?_; simp only [List.size_toArray, List.length_cons, List.length_nil, Nat.reduceAdd, Nat.zero_add, List.range, List.range.loop])
      | (refine Run.cond rfl ?_; simp only [if_true, if_false, Bool.false_eq_true, ↓reduceIte])
      | (refine Run.unwanted rfl rfl ?_; walk_nrm)
      | (refine Run.op0 rfl rfl (by k_ne) (fun d K hK => by go_simp; exact hK) (fun d => by simp [go_sem, *] <;> fail) ?_; try w_num)
      | refine Run.ret ?_
      | refine Run.fin ?_
      | refine Run.exit rfl ?_
      | (refine Run.leave1 rfl rfl Try.func58 rfl ?_; walk_nrm)
    exact hK _ _ _ ⟨rfl, rfl, rfl⟩
set_option maxRecDepth 100000 in
set_option maxHeartbeats 4000000 in
theorem b32_con : Con Try.prog X 88 #[.bool true] w (fun X' v w' => X' = X ∧ w' = w ∧ v = .int .u32 1) := by
  refine ⟨Try.f88, _, Try.func88, nm88, rfl, fun b₀ a₀ ops₀ n₀ rest₀ k₀ cs hK => ?_⟩
  walk_nrmf Try.f88
  repeat first
    | refine Run.seq ?_
    | refine Run.skip ?_
    | refine Run.regionEnd ?_
    | refine Run.block ?_
    | refine Run.inBlock ?_
    | (refine Run.region ?_; simp only [List.size_toArray, List.length_cons, List.length_nil, Nat.reduceAdd, Nat.zero_add, List.range, List.range.loop])
    | (refine Run.cond rfl ?_; simp only [if_true, if_false, Bool.false_eq_true, ↓reduceIte])
    | (refine Run.unwanted rfl rfl ?_; walk_nrm)
    | (refine Run.op0 rfl rfl (by k_ne) (fun d K hK => by go_simp; exact hK) (fun d => by simp [go_sem, *] <;> fail) ?_; try w_num)
    | refine Run.ret ?_
    | refine Run.fin ?_
    | refine Run.exit rfl ?_
    | (refine Run.leave1 rfl rfl Try.func88 rfl ?_; walk_nrm)
  exact hK _ _ _ ⟨rfl, rfl, rfl⟩
noncomputable def b73 : Code := Try.f73.body.getD .skip
noncomputable def ops73 : Array Oper := match b73 with | .region _ ops _ => ops | _ => #[]
theorem ops73_size : ops73.size = 6 := by kernel_rfl
set_option maxRecDepth 100000 in
set_option maxHeartbeats 4000000 in
theorem store_con {st : Int} (hB : T < X.B) (h : TlM T x st w) {b : Frame} {a : Act} {todo : List Item} {ds : List Deferred} {cs : List Frame} (hd : a.defers = dcall 73 #[.pointer (some ⟨T, 10, none⟩), .bool true] :: ds)
    (hK : Run Try.prog X (G { b.at ⟨a.tmps, ds⟩ todo with mode := .returning } cs) (w.setCell ⟨T, 10, none⟩ (.int .u32 1))) : Run Try.prog X (G { b.at a todo with mode := .returning } cs) w := by
  refine Run.unwind hd Try.func73 nm73 rfl ?_
  walk_nrmf Try.f73
  refine Run.draw (by decide) rfl (fun a' w' => w' = w.setCell ⟨T, 10, none⟩ (.int .u32 1) ∧ a'.defers = []) (fun _ => True) ?_ (fun a' w' hq => ?_)
  · simp only [List.size_toArray, List.length_cons, List.length_nil, Nat.reduceAdd, Nat.zero_add]
    refine anyR_take (i' := 0) rfl (by kernel_rfl) (by kernel_rfl) (by kernel_rfl) (by kernel_rfl) (fun w' hS => .inl ⟨rfl, fun d => ⟨by go_simp; rfl, fun e he => by simp [go_sem] at he⟩⟩) ?_
    walk_nrm
    refine anyR_take (i' := 1) rfl (by kernel_rfl) (by kernel_rfl) (by kernel_rfl) (by kernel_rfl) (fun w' hS => .inl ⟨rfl, fun d => ⟨by go_simp; rfl, fun e he => by simp [go_sem] at he⟩⟩) ?_
    walk_nrm
    refine anyR_take (i' := 2) rfl (by kernel_rfl) (by kernel_rfl) (by kernel_rfl) (by kernel_rfl) (fun w' hS => .inl ⟨rfl, fun d => ⟨by go_simp; rfl, fun e he => by simp [go_sem] at he⟩⟩) ?_
    walk_nrm
    refine anyR_take (i' := 3) rfl (by kernel_rfl) (by kernel_rfl) (by kernel_rfl) (by kernel_rfl) (fun w' hS => .inl ⟨rfl, fun d => ⟨by go_simp; rfl, fun e he => by simp [go_sem] at he⟩⟩) ?_
    walk_nrm
    refine anyR_call (j := 4) b32_con rfl (by kernel_rfl) (by kernel_rfl) trivial rfl rfl (by simp only [List.map_toArray, List.map_cons, List.map_nil]; rfl) (fun X' v w' hr => ?_)
    obtain ⟨rfl, rfl, rfl⟩ := hr
    refine ⟨rfl, ?_⟩
    walk_nrm
    refine anyR_store (j := 5) rfl (by kernel_rfl) (by kernel_rfl) trivial rfl rfl Try.func87 nm87 bd87 nx87 ex87 rfl rfl h.cellDone (h.thaw 10) hB ?_
    exact anyR_done (by kernel_rfl) trivial ⟨rfl, rfl⟩
  · obtain ⟨rfl, hq2⟩ := hq
    refine Run.regionEnd ?_
    refine Run.fin ?_
    refine Run.leaveD rfl hq2 Try.func73 rfl rfl hK
set_option maxRecDepth 100000 in
set_option maxHeartbeats 4000000 in
theorem unlock_def (hB : X.free T) (h : TlM T x 1 w) {b : Frame} {a : Act} {todo : List Item} {ds : List Deferred} {cs : List Frame} (hd : a.defers = dcall 72 #[.pointer (some ⟨T, 11, none⟩)] :: ds)
    (hK : Run Try.prog X (G { b.at ⟨a.tmps, ds⟩ todo with mode := .returning } cs) (w.setCell ⟨T, 11, none⟩ (.int .i32 0))) : Run Try.prog X (G { b.at a todo with mode := .returning } cs) w := by
  refine Run.unwind hd Try.func72 nm72 rfl ?_
  walk_nrmf Try.f72
  repeat first
    | refine Run.seq ?_
    | refine Run.skip ?_
    | refine Run.regionEnd ?_
    | refine Run.block ?_
    | refine Run.inBlock ?_
    | (refine Run.region ?_; simp only [List.size_toArray, List.length_cons, List.length_nil, Nat.reduceAdd, Nat.zero_add, List.range, List.range.loop])
    | (refine Run.cond rfl ?_; simp only [if_true, if_false, Bool.false_eq_true, ↓reduceIte])
    | (refine Run.unwanted rfl rfl ?_; walk_nrm)
    | (refine Run.op0 rfl rfl (by k_ne) (fun d K hK => by go_simp; exact hK) (fun d => by simp [go_sem, *] <;> fail) ?_; try w_num)
    | refine Run.ret ?_
    | refine Run.fin ?_
    | refine Run.exit rfl ?_
  refine Run.con (unlock_con hB h) rfl rfl (by decide) rfl (by simp only [List.map_toArray, List.map_cons, List.map_nil]; rfl) (fun X' v w' hr => ?_)
  obtain ⟨rfl, rfl⟩ := hr
  walk_nrm
  repeat first
    | refine Run.seq ?_
    | refine Run.skip ?_
    | refine Run.regionEnd ?_
    | refine Run.block ?_
    | refine Run.inBlock ?_
    | (refine Run.region ?_; simp only [List.size_toArray, List.length_cons, List.length_nil, Nat.reduceAdd, Nat.zero_add, List.range, List.range.loop])
    | (refine Run.cond rfl ?_; simp only [if_true, if_false, Bool.false_eq_true, ↓reduceIte])
    | (refine Run.unwanted rfl rfl ?_; walk_nrm)
    | (refine Run.op0 rfl rfl (by k_ne) (fun d K hK => by go_simp; exact hK) (fun d => by simp [go_sem, *] <;> fail) ?_; try w_num)
    | refine Run.ret ?_
    | refine Run.fin ?_
    | refine Run.exit rfl ?_
  refine Run.leaveD rfl rfl Try.func72 rfl rfl hK
set_option maxRecDepth 100000 in
set_option maxHeartbeats 4000000 in
theorem word_con {b3 b2 : Nat} {n st : Int} (h3 : X.free b3) (h2 : X.free b2) (hT : X.free T) (c3 : w.cell? ⟨b3, 0, none⟩ = some (.int .i64 n)) (c2 : w.cell? ⟨b2, 0, none⟩ = some (.pointer (some ⟨T, 0, none⟩))) (h : TlM T x st w)
    {b : Frame} {a : Act} {k : List Item} {cs : List Frame} {ops : Array Oper} {i : Nat} {rest : List Nat} (hK : Run Try.prog X (G (b.at (a.put ((ops[i]?).bind (·.dst)) (.tuple #[])) (.inRegion ops rest :: k)) cs) (w.setCell ⟨T, 13, none⟩ (.int .i64 n))) :
    Run Try.prog X (G ((base 33).at ⟨#[.pointer (some ⟨b3, 0, none⟩), .pointer (some ⟨b2, 0, none⟩), undef, undef, undef, undef], []⟩ [.code (Try.f33.body.getD .skip)]) (b.at a (.inRegion ops (i :: rest) :: k) :: cs)) w := by
  have cw := h.cellWord
  have fw := h.thaw 13
  simp only [Try.f33, Option.getD_some]
  refine Run.region ?_
  simp only [List.size_toArray, List.length_cons, List.length_nil, Nat.reduceAdd, Nat.zero_add, List.range, List.range.loop]
  refine Run.op w rfl rfl (by k_ne) (fun d K hK => by go_simp; exact hK) (fun d e he => by simp [go_sem, *] at he; subst he; exact evL_free h2) ?_
  try w_num
  refine Run.op w rfl rfl (by k_ne) (fun d K hK => by go_simp; exact hK) (fun d e he => by simp [go_sem, *] at he; subst he; exact evL_free h3) ?_
  try w_num
  repeat first
    | refine Run.seq ?_
    | refine Run.skip ?_
    | refine Run.regionEnd ?_
    | refine Run.block ?_
    | refine Run.inBlock ?_
    | (refine Run.region ?_; simp only [List.size_toArray, List.length_cons, List.length_nil, Nat.reduceAdd, Nat.zero_add, List.range, List.range.loop])
    | (refine Run.cond rfl ?_; simp only [if_true, if_false, Bool.false_eq_true, ↓reduceIte])
    | (refine Run.unwanted rfl rfl ?_; walk_nrm)
    | (refine Run.op0 rfl rfl (by k_ne) (fun d K hK => by go_simp; exact hK) (fun d => by simp [go_sem, *] <;> fail) ?_; try w_num)
    | refine Run.ret ?_
    | refine Run.fin ?_
    | refine Run.exit rfl ?_
  refine Run.op (w.setCell ⟨T, 13, none⟩ (.int .i64 n)) rfl rfl (by k_ne) (fun d K hK => by go_simp; exact hK) (fun d e he => by simp [go_sem, *] at he; subst he; exact evL_free hT) ?_
  try w_num
  repeat first
    | refine Run.seq ?_
    | refine Run.skip ?_
    | refine Run.regionEnd ?_
    | refine Run.block ?_
    | refine Run.inBlock ?_
    | (refine Run.region ?_; simp only [List.size_toArray, List.length_cons, List.length_nil, Nat.reduceAdd, Nat.zero_add, List.range, List.range.loop])
    | (refine Run.cond rfl ?_; simp only [if_true, if_false, Bool.false_eq_true, ↓reduceIte])
    | (refine Run.unwanted rfl rfl ?_; walk_nrm)
    | (refine Run.op0 rfl rfl (by k_ne) (fun d K hK => by go_simp; exact hK) (fun d => by simp [go_sem, *] <;> fail) ?_; try w_num)
    | refine Run.ret ?_
    | refine Run.fin ?_
    | refine Run.exit rfl ?_
  refine Run.leave0 rfl rfl Try.func33 rfl ?_
  exact hK
end
end Go.Proofs.Ytboiolnnhmlieaa.Gang
