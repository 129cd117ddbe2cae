
/-
  Goroutine 0 beside leavers: the methods of the tally, each as a contract.
  Conditions: stated lemma by lemma.
-/
import Derived.Test.YtboiolnnhmlieaaGc2
import Derived.Test.YtboiolnnhmlieaaGb4
namespace Go.Proofs.Ytboiolnnhmlieaa.Gang
open Go.Conc Go.ConcN Go.RowKit Go.Conc.Lib Go.ConcR.Gen Go.ConcN.Gen
set_option linter.unusedVariables false
set_option linter.unusedSimpArgs false
theorem nm9 : (Try.f9.name == "runtime.NumGoroutine") = false := by kernel_rfl
theorem nm10 : (Try.f10.name == "runtime.NumGoroutine") = false := by kernel_rfl
theorem nm16 : (Try.f16.name == "runtime.NumGoroutine") = false := by kernel_rfl
theorem nm21 : (Try.f21.name == "runtime.NumGoroutine") = false := by kernel_rfl
theorem nm22 : (Try.f22.name == "runtime.NumGoroutine") = false := by kernel_rfl
theorem nm23 : (Try.f23.name == "runtime.NumGoroutine") = false := by kernel_rfl
/-- a tally in memory, nobody at work on it -/
structure Tl where
  cs : Nat → Int
  most : Int
  tick : Int
  done : Bool
  word : Int
def Tl.rest (x : Tl) : List Value := [.int .i64 x.tick, .int .u32 (if x.done then 1 else 0), .int .i32 0, .int .u32 0, .int .i64 x.word]
def TlAt (T : Nat) (x : Tl) (w : World) : Prop := TalAt 67 T x.rest ⟨x.cs, x.most⟩ w
/-- the first may touch the block's cells -/
def Cx.free (X : Cx) (b : Nat) : Prop := b < X.B ∧ ∀ o, ¬ X.Sh (.cell ⟨b, o, none⟩)
theorem evL_free {X : Cx} {b o : Nat} {x : Bool} (h : X.free b) : EvL X.Sh X.B ⟨.cell ⟨b, o, none⟩, x, false⟩ := evL_cell _ _ (h.2 o) h.1
theorem aside_trans {T : Nat} {a b c : World} (h : Aside T a b) (k : Aside T b c) : Aside T a c := ⟨k.tape.trans h.tape, k.os.trans h.os, k.output.trans h.output, k.size.trans h.size, fun b hb => (k.block b hb).trans (h.block b hb)⟩
theorem ev_nilptr (ad : Addr) (w : World) (es : Array Event) : (binOp .eql 24 (.pointer (some ad)) (.pointer none)).events Try.prog w es = es := by
  have h := Try.underlying24
  show ((Sem.bind (Op.equal 24 (.pointer (some ad)) (.pointer none)) (fun r => Sem.pure (Value.bool r))).runT Try.prog w es).2 = es
  unfold Op.equal Op.maxDepth
  rw [show (10000 : Nat) = 9999 + 1 from rfl, Op.equalIn]
  simp only [underlying, program, Bind.bind, Sem.bind, Sem.runT, h, Pure.pure]
theorem ev_slot {T c : Nat} (hc : c < 8) (w : World) (es : Array Event) : (Instr.indexAt 55 (.pointer (some ⟨T, 0, none⟩)) (.int .i64 (c : Int))).events Try.prog w es = es := events_indexAt_array 55 54 8 _ _ _ Try.underlying55 ⟨by omega, by omega⟩
section
variable {X : Cx} {T : Nat} {x : Tl} {w : World}
theorem TlAt.cellTick (h : TlAt T x w) : w.cell? ⟨T, 9, none⟩ = some (.int .i64 x.tick) := by
  unfold TlAt TalAt at h
  simp [World.cell?, h, Tl.rest]
theorem TlAt.setTick (h : TlAt T x w) (d : Int) : TlAt T { x with tick := d } (w.setCell ⟨T, 9, none⟩ (.int .i64 d)) := by
  unfold TlAt TalAt at h ⊢
  rw [setCell_eq_setRow w T 9 _ 67 (0, 0) _ h, setRow_heap w T _ _ 67 _ h]
  simp [Tl.rest]
set_option maxRecDepth 100000 in
set_option maxHeartbeats 4000000 in
theorem get_lo {i : Int} (h1 : i < 0) : Con Try.prog X 21 #[.pointer (some ⟨T, 0, none⟩), .int .i64 i] w (fun X' v w' => X' = X ∧ w' = w ∧ v = .int .i64 0) := by
  have d1 : decide (i < 0) = true := decide_eq_true h1
  have evn := ev_nilptr ⟨T, 0, none⟩
  refine ⟨Try.f21, _, Try.func21, nm21, rfl, fun b₀ a₀ ops₀ n₀ rest₀ k₀ cs hK => ?_⟩
  walk_nrmf Try.f21
  clear h1
  repeat first
    | refine Run.seq ?_
    | refine Run.skip ?_
    | refine Run.regionEnd ?_
    | refine Run.block ?_
    | refine Run.inBlock ?_
    | (refine Run.region ?_; simp only [List.size_toArray, List.length_cons, List.length_nil, Nat.reduceAdd, Nat.zero_add, List.range, List.range.loop])
    | (refine Run.cond rfl ?_; simp only [if_true, if_false, Bool.false_eq_true, ↓reduceIte])
    | (refine Run.unwanted rfl rfl ?_; walk_nrm)
    | (refine Run.op0 rfl rfl (by k_ne) (fun d K hK => by go_simp; exact hK) (fun d => by simp [go_sem, *]) ?_; try w_num)
    | refine Run.ret ?_
  refine Run.leave1 rfl rfl Try.func21 rfl ?_
  exact hK _ _ _ ⟨rfl, rfl, rfl⟩
set_option maxRecDepth 100000 in
set_option maxHeartbeats 4000000 in
theorem get_hi {i : Int} (h1 : 8 ≤ i) : Con Try.prog X 21 #[.pointer (some ⟨T, 0, none⟩), .int .i64 i] w (fun X' v w' => X' = X ∧ w' = w ∧ v = .int .i64 0) := by
  have d1 : decide (i < 0) = false := decide_eq_false (by omega)
  have d2 : decide (8 ≤ i) = true := decide_eq_true h1
  have evn := ev_nilptr ⟨T, 0, none⟩
  refine ⟨Try.f21, _, Try.func21, nm21, rfl, fun b₀ a₀ ops₀ n₀ rest₀ k₀ cs hK => ?_⟩
  walk_nrmf Try.f21
  clear h1
  repeat first
    | refine Run.seq ?_
    | refine Run.skip ?_
    | refine Run.regionEnd ?_
    | refine Run.block ?_
    | refine Run.inBlock ?_
    | (refine Run.region ?_; simp only [List.size_toArray, List.length_cons, List.length_nil, Nat.reduceAdd, Nat.zero_add, List.range, List.range.loop])
    | (refine Run.cond rfl ?_; simp only [if_true, if_false, Bool.false_eq_true, ↓reduceIte])
    | (refine Run.unwanted rfl rfl ?_; walk_nrm)
    | (refine Run.op0 rfl rfl (by k_ne) (fun d K hK => by go_simp; exact hK) (fun d => by simp [go_sem, *]) ?_; try w_num)
    | refine Run.ret ?_
  refine Run.leave1 rfl rfl Try.func21 rfl ?_
  exact hK _ _ _ ⟨rfl, rfl, rfl⟩
set_option maxRecDepth 100000 in
set_option maxHeartbeats 4000000 in
theorem get_mid (hB : T < X.B) (h : TlAt T x w) {c : Nat} (hc : c < 8) : Con Try.prog X 21 #[.pointer (some ⟨T, 0, none⟩), .int .i64 (c : Int)] w (fun X' v w' => X' = X ∧ w' = w ∧ v = .int .i64 (x.cs c)) := by
  have hci : (c : Int) < 8 := by omega
  have d1 : decide ((c : Int) < 0) = false := decide_eq_false (by omega)
  have d2 : decide ((8 : Int) ≤ c) = false := decide_eq_false (by omega)
  have evi := fun w es => ev_slot (T := T) hc w es
  have evn := ev_nilptr ⟨T, 0, none⟩
  refine ⟨Try.f21, _, Try.func21, nm21, rfl, fun b₀ a₀ ops₀ n₀ rest₀ k₀ cs hK => ?_⟩
  walk_nrmf Try.f21
  repeat first
    | refine Run.seq ?_
    | refine Run.skip ?_
    | refine Run.regionEnd ?_
    | refine Run.block ?_
    | refine Run.inBlock ?_
    | (refine Run.region ?_; simp only [List.size_toArray, List.length_cons, List.length_nil, Nat.reduceAdd, Nat.zero_add, List.range, List.range.loop])
    | (refine Run.cond rfl ?_; simp only [if_true, if_false, Bool.false_eq_true, ↓reduceIte])
    | (refine Run.unwanted rfl rfl ?_; walk_nrm)
    | (refine Run.op0 rfl rfl (by k_ne) (fun d K hK => by go_simp; exact hK) (fun d => by simp [go_sem, *]) ?_; try w_num)
    | refine Run.ret ?_
    | (refine Run.call rfl rfl (by k_ne) rfl Try.func37 nm37 rfl ?_; walk_nrmf Try.f37)
  refine Run.loadAt rfl rfl (by k_ne) rfl Try.func63 nm63 bd63 nx63 .i64 ex63 rfl (TalAt.cell h hc) hB ?_
  walk_nrm
  repeat first
    | refine Run.seq ?_
    | refine Run.skip ?_
    | refine Run.regionEnd ?_
    | refine Run.block ?_
    | refine Run.inBlock ?_
    | (refine Run.region ?_; simp only [List.size_toArray, List.length_cons, List.length_nil, Nat.reduceAdd, Nat.zero_add, List.range, List.range.loop])
    | (refine Run.cond rfl ?_; simp only [if_true, if_false, Bool.false_eq_true, ↓reduceIte])
    | (refine Run.unwanted rfl rfl ?_; walk_nrm)
    | (refine Run.op0 rfl rfl (by k_ne) (fun d K hK => by go_simp; exact hK) (fun d => by simp [go_sem, *]) ?_; try w_num)
    | refine Run.ret ?_
    | (refine Run.leave1 rfl rfl Try.func37 rfl ?_; walk_nrm)
  refine Run.leave1 rfl rfl Try.func21 rfl ?_
  exact hK _ _ _ ⟨rfl, rfl, rfl⟩
theorem get_con (hB : T < X.B) (h : TlAt T x w) (i : Int) : Con Try.prog X 21 #[.pointer (some ⟨T, 0, none⟩), .int .i64 i] w (fun X' v w' => X' = X ∧ w' = w ∧ v = .int .i64 (if 0 ≤ i ∧ i < 8 then x.cs i.toNat else 0)) := by
  by_cases h1 : i < 0
  · rw [if_neg (by omega)]; exact get_lo h1
  · by_cases h2 : 8 ≤ i
    · rw [if_neg (by omega)]; exact get_hi h2
    · rw [if_pos (by omega)]
      obtain ⟨c, rfl⟩ : ∃ c : Nat, i = c := ⟨i.toNat, by omega⟩
      rw [show ((c : Int)).toNat = c by omega]
      exact get_mid hB h (by omega)
set_option maxRecDepth 100000 in
set_option maxHeartbeats 4000000 in
theorem most_con (hB : T < X.B) (h : TlAt T x w) : Con Try.prog X 22 #[.pointer (some ⟨T, 0, none⟩)] w (fun X' v w' => X' = X ∧ w' = w ∧ v = .int .i64 x.most) := by
  have evn := ev_nilptr ⟨T, 0, none⟩
  refine ⟨Try.f22, _, Try.func22, nm22, rfl, fun b₀ a₀ ops₀ n₀ rest₀ k₀ cs hK => ?_⟩
  walk_nrmf Try.f22
  repeat first
    | refine Run.seq ?_
    | refine Run.skip ?_
    | refine Run.regionEnd ?_
    | refine Run.block ?_
    | refine Run.inBlock ?_
    | (refine Run.region ?_; simp only [List.size_toArray, List.length_cons, List.length_nil, Nat.reduceAdd, Nat.zero_add, List.range, List.range.loop])
    | (refine Run.cond rfl ?_; simp only [if_true, if_false, Bool.false_eq_true, ↓reduceIte])
    | (refine Run.unwanted rfl rfl ?_; walk_nrm)
    | (refine Run.op0 rfl rfl (by k_ne) (fun d K hK => by go_simp; exact hK) (fun d => by simp [go_sem, *]) ?_; try w_num)
    | refine Run.ret ?_
    | (refine Run.call rfl rfl (by k_ne) rfl Try.func37 nm37 rfl ?_; walk_nrmf Try.f37)
  refine Run.loadAt rfl rfl (by k_ne) rfl Try.func63 nm63 bd63 nx63 .i64 ex63 rfl (TalAt.cellMost h) hB ?_
  walk_nrm
  repeat first
    | refine Run.seq ?_
    | refine Run.skip ?_
    | refine Run.regionEnd ?_
    | refine Run.block ?_
    | refine Run.inBlock ?_
    | (refine Run.region ?_; simp only [List.size_toArray, List.length_cons, List.length_nil, Nat.reduceAdd, Nat.zero_add, List.range, List.range.loop])
    | (refine Run.cond rfl ?_; simp only [if_true, if_false, Bool.false_eq_true, ↓reduceIte])
    | (refine Run.unwanted rfl rfl ?_; walk_nrm)
    | (refine Run.op0 rfl rfl (by k_ne) (fun d K hK => by go_simp; exact hK) (fun d => by simp [go_sem, *]) ?_; try w_num)
    | refine Run.ret ?_
    | (refine Run.leave1 rfl rfl Try.func37 rfl ?_; walk_nrm)
  refine Run.leave1 rfl rfl Try.func22 rfl ?_
  exact hK _ _ _ ⟨rfl, rfl, rfl⟩
set_option maxRecDepth 100000 in
set_option maxHeartbeats 4000000 in
theorem ticket_con (hB : T < X.B) (h : TlAt T x w) : Con Try.prog X 16 #[.pointer (some ⟨T, 0, none⟩)] w (fun X' v w' => X' = X ∧ v = .int .i64 (w64 (x.tick + 1)) ∧ TlAt T { x with tick := w64 (x.tick + 1) } w' ∧ Aside T w w') := by
  have evn := ev_nilptr ⟨T, 0, none⟩
  refine ⟨Try.f16, _, Try.func16, nm16, rfl, fun b₀ a₀ ops₀ n₀ rest₀ k₀ cs hK => ?_⟩
  walk_nrmf Try.f16
  repeat first
    | refine Run.seq ?_
    | refine Run.skip ?_
    | refine Run.regionEnd ?_
    | refine Run.block ?_
    | refine Run.inBlock ?_
    | (refine Run.region ?_; simp only [List.size_toArray, List.length_cons, List.length_nil, Nat.reduceAdd, Nat.zero_add, List.range, List.range.loop])
    | (refine Run.cond rfl ?_; simp only [if_true, if_false, Bool.false_eq_true, ↓reduceIte])
    | (refine Run.unwanted rfl rfl ?_; walk_nrm)
    | (refine Run.op0 rfl rfl (by k_ne) (fun d K hK => by go_simp; exact hK) (fun d => by simp [go_sem, *]) ?_; try w_num)
    | refine Run.ret ?_
    | (refine Run.call rfl rfl (by k_ne) rfl Try.func34 nm34 rfl ?_; walk_nrmf Try.f34)
  refine Run.addAt rfl rfl (by k_ne) rfl Try.func60 nm60 bd60 nx60 .i64 ex60 rfl rfl (TlAt.cellTick h) (TalAt.thaw h 9) hB ?_
  rw [wrap_w64]
  walk_nrm
  repeat first
    | refine Run.seq ?_
    | refine Run.skip ?_
    | refine Run.regionEnd ?_
    | refine Run.block ?_
    | refine Run.inBlock ?_
    | (refine Run.region ?_; simp only [List.size_toArray, List.length_cons, List.length_nil, Nat.reduceAdd, Nat.zero_add, List.range, List.range.loop])
    | (refine Run.cond rfl ?_; simp only [if_true, if_false, Bool.false_eq_true, ↓reduceIte])
    | (refine Run.unwanted rfl rfl ?_; walk_nrm)
    | (refine Run.op0 rfl rfl (by k_ne) (fun d K hK => by go_simp; exact hK) (fun d => by simp [go_sem, *]) ?_; try w_num)
    | refine Run.ret ?_
    | (refine Run.leave1 rfl rfl Try.func34 rfl ?_; walk_nrm)
  refine Run.leave1 rfl rfl Try.func16 rfl ?_
  exact hK _ _ _ ⟨rfl, rfl, h.setTick _, aside_setCell w ⟨T, 9, none⟩ _⟩
set_option maxRecDepth 100000 in
set_option maxHeartbeats 4000000 in
theorem gadd_con (hB : T < X.B) (h : TlAt T x w) {c : Nat} (hc : c < 8) (d : Int) : Con Try.prog X 24 #[.pointer (some ⟨T, 0, none⟩), .int .i64 (c : Int), .int .i64 d] w
    (fun X' v w' => X' = X ∧ TlAt T { x with cs := fun a => if a = c then w64 (x.cs c + d) else x.cs a, most := if d ≤ x.most then x.most else d } w' ∧ Aside T w w') := by
  have hci : (c : Int) < 8 := by omega
  have evi := fun w es => ev_slot (T := T) hc w es
  have evn := ev_nilptr ⟨T, 0, none⟩
  refine ⟨Try.f24, _, Try.func24, nm24, rfl, fun b₀ a₀ ops₀ n₀ rest₀ k₀ cs hK => ?_⟩
  walk_nrmf Try.f24
  repeat first
    | refine Run.seq ?_
    | refine Run.skip ?_
    | refine Run.regionEnd ?_
    | refine Run.block ?_
    | refine Run.inBlock ?_
    | (refine Run.region ?_; simp only [List.size_toArray, List.length_cons, List.length_nil, Nat.reduceAdd, Nat.zero_add, List.range, List.range.loop])
    | (refine Run.cond rfl ?_; simp only [if_true, if_false, Bool.false_eq_true, ↓reduceIte])
    | (refine Run.unwanted rfl rfl ?_; walk_nrm)
    | (refine Run.op0 rfl rfl (by k_ne) (fun d K hK => by go_simp; exact hK) (fun d => by simp [go_sem, *]) ?_; try w_num)
    | refine Run.ret ?_
    | (refine Run.call rfl rfl (by k_ne) rfl Try.func34 nm34 rfl ?_; walk_nrmf Try.f34)
    | (refine Run.call rfl rfl (by k_ne) rfl Try.func37 nm37 rfl ?_; walk_nrmf Try.f37)
    | (refine Run.call rfl rfl (by k_ne) rfl Try.func38 nm38 rfl ?_; walk_nrmf Try.f38)
  refine Run.addAt rfl rfl (by k_ne) rfl Try.func60 nm60 bd60 nx60 .i64 ex60 rfl rfl (TalAt.cell h hc) (TalAt.thaw h c) hB ?_
  rw [wrap_w64]
  have h2 := TalAt.setCs h hc (w64 (x.cs c + d))
  have a2 : Aside T w (w.setCell ⟨T, c, none⟩ (.int .i64 (w64 (x.cs c + d)))) := aside_setCell w ⟨T, c, none⟩ _
  generalize w.setCell ⟨T, c, none⟩ (.int .i64 (w64 (x.cs c + d))) = w2 at h2 a2 ⊢
  clear evi
  walk_nrm
  repeat first
    | refine Run.seq ?_
    | refine Run.skip ?_
    | refine Run.regionEnd ?_
    | refine Run.block ?_
    | refine Run.inBlock ?_
    | (refine Run.region ?_; simp only [List.size_toArray, List.length_cons, List.length_nil, Nat.reduceAdd, Nat.zero_add, List.range, List.range.loop])
    | (refine Run.cond rfl ?_; simp only [if_true, if_false, Bool.false_eq_true, ↓reduceIte])
    | (refine Run.unwanted rfl rfl ?_; walk_nrm)
    | (refine Run.op0 rfl rfl (by k_ne) (fun d K hK => by go_simp; exact hK) (fun d => by simp [go_sem, *]) ?_; try w_num)
    | refine Run.ret ?_
    | (refine Run.loop ?_)
    | (refine Run.call rfl rfl (by k_ne) rfl Try.func37 nm37 rfl ?_; walk_nrmf Try.f37)
    | (refine Run.call rfl rfl (by k_ne) rfl Try.func38 nm38 rfl ?_; walk_nrmf Try.f38)
    | (refine Run.leave1 rfl rfl Try.func34 rfl ?_; walk_nrm)
  refine Run.loadAt rfl rfl (by k_ne) rfl Try.func63 nm63 bd63 nx63 .i64 ex63 rfl (TalAt.cellMost h2) hB ?_
  walk_nrm
  by_cases hd : d ≤ x.most
  · have hd1 : decide (d ≤ x.most) = true := decide_eq_true hd
    rw [if_pos hd] at hK
    clear hd
    repeat first
      | refine Run.seq ?_
      | refine Run.skip ?_
      | refine Run.regionEnd ?_
      | refine Run.block ?_
      | refine Run.inBlock ?_
      | (refine Run.region ?_; simp only [List.size_toArray, List.length_cons, List.length_nil, Nat.reduceAdd, Nat.zero_add, List.range, List.range.loop])
      | (refine Run.cond rfl ?_; simp only [if_true, if_false, Bool.false_eq_true, ↓reduceIte])
      | (refine Run.unwanted rfl rfl ?_; walk_nrm)
      | (refine Run.op0 rfl rfl (by k_ne) (fun d K hK => by go_simp; exact hK) (fun d => by simp [go_sem, *]) ?_; try w_num)
      | refine Run.ret ?_
      | (refine Run.call rfl rfl (by k_ne) rfl Try.func38 nm38 rfl ?_; walk_nrmf Try.f38)
      | (refine Run.leave1 rfl rfl Try.func37 rfl ?_; walk_nrm)
    refine Run.leave0 rfl rfl Try.func24 rfl ?_
    exact hK _ _ _ ⟨rfl, h2, a2⟩
  · have hd1 : decide (d ≤ x.most) = false := decide_eq_false hd
    rw [if_neg hd] at hK
    clear hd
    repeat first
      | refine Run.seq ?_
      | refine Run.skip ?_
      | refine Run.regionEnd ?_
      | refine Run.block ?_
      | refine Run.inBlock ?_
      | (refine Run.region ?_; simp only [List.size_toArray, List.length_cons, List.length_nil, Nat.reduceAdd, Nat.zero_add, List.range, List.range.loop])
      | (refine Run.cond rfl ?_; simp only [if_true, if_false, Bool.false_eq_true, ↓reduceIte])
      | (refine Run.unwanted rfl rfl ?_; walk_nrm)
      | (refine Run.op0 rfl rfl (by k_ne) (fun d K hK => by go_simp; exact hK) (fun d => by simp [go_sem, *]) ?_; try w_num)
      | refine Run.ret ?_
      | (refine Run.call rfl rfl (by k_ne) rfl Try.func38 nm38 rfl ?_; walk_nrmf Try.f38)
      | (refine Run.leave1 rfl rfl Try.func37 rfl ?_; walk_nrm)
    refine Run.casAt rfl rfl (by k_ne) rfl Try.func64 nm64 bd64 nx64 .i64 ex64 rfl rfl rfl (TalAt.cellMost h2) (TalAt.thaw h2 8) hB ?_
    walk_nrm
    repeat first
      | refine Run.seq ?_
      | refine Run.skip ?_
      | refine Run.regionEnd ?_
      | refine Run.block ?_
      | refine Run.inBlock ?_
      | (refine Run.region ?_; simp only [List.size_toArray, List.length_cons, List.length_nil, Nat.reduceAdd, Nat.zero_add, List.range, List.range.loop])
      | (refine Run.cond rfl ?_; simp only [if_true, if_false, Bool.false_eq_true, ↓reduceIte])
      | (refine Run.unwanted rfl rfl ?_; walk_nrm)
      | (refine Run.op0 rfl rfl (by k_ne) (fun d K hK => by go_simp; exact hK) (fun d => by simp [go_sem, *]) ?_; try w_num)
      | refine Run.ret ?_
      | (refine Run.leave1 rfl rfl Try.func38 rfl ?_; walk_nrm)
    refine Run.leave0 rfl rfl Try.func24 rfl ?_
    exact hK _ _ _ ⟨rfl, TalAt.setMost h2 d, aside_trans a2 (aside_setCell w2 ⟨T, 8, none⟩ _)⟩
def okStep (i n : Int) : Bool := decide (0 ≤ i) && decide (i < 8) && decide (0 ≤ n) && decide (n ≤ 1073741824)
set_option maxRecDepth 100000 in
set_option maxHeartbeats 4000000 in
theorem right_1 {i n : Int} (d0 : decide (0 ≤ i) = false) : Con Try.prog X 23 #[.int .i64 i, .int .i64 n] w (fun X' v w' => X' = X ∧ w' = w ∧ v = .bool false) := by
  refine ⟨Try.f23, _, Try.func23, nm23, rfl, fun b₀ a₀ ops₀ n₀ rest₀ k₀ cs hK => ?_⟩
  walk_nrmf Try.f23
  repeat first
    | refine Run.seq ?_
    | refine Run.skip ?_
    | refine Run.regionEnd ?_
    | refine Run.block ?_
    | refine Run.inBlock ?_
    | (refine Run.region ?_; simp only [List.size_toArray, List.length_cons, List.length_nil, Nat.reduceAdd, Nat.zero_add, List.range, List.range.loop])
    | (refine Run.cond rfl ?_; simp only [if_true, if_false, Bool.false_eq_true, ↓reduceIte])
    | (refine Run.unwanted rfl rfl ?_; walk_nrm)
    | (refine Run.op0 rfl rfl (by k_ne) (fun d K hK => by go_simp; exact hK) (fun d => by simp [go_sem, *]) ?_; try w_num)
    | refine Run.ret ?_
  refine Run.leave1 rfl rfl Try.func23 rfl ?_
  exact hK _ _ _ ⟨rfl, rfl, rfl⟩
set_option maxRecDepth 100000 in
set_option maxHeartbeats 4000000 in
theorem right_2 {i n : Int} (d0 : decide (0 ≤ i) = true) (d1 : decide (i < 8) = false) : Con Try.prog X 23 #[.int .i64 i, .int .i64 n] w (fun X' v w' => X' = X ∧ w' = w ∧ v = .bool false) := by
  refine ⟨Try.f23, _, Try.func23, nm23, rfl, fun b₀ a₀ ops₀ n₀ rest₀ k₀ cs hK => ?_⟩
  walk_nrmf Try.f23
  repeat first
    | refine Run.seq ?_
    | refine Run.skip ?_
    | refine Run.regionEnd ?_
    | refine Run.block ?_
    | refine Run.inBlock ?_
    | (refine Run.region ?_; simp only [List.size_toArray, List.length_cons, List.length_nil, Nat.reduceAdd, Nat.zero_add, List.range, List.range.loop])
    | (refine Run.cond rfl ?_; simp only [if_true, if_false, Bool.false_eq_true, ↓reduceIte])
    | (refine Run.unwanted rfl rfl ?_; walk_nrm)
    | (refine Run.op0 rfl rfl (by k_ne) (fun d K hK => by go_simp; exact hK) (fun d => by simp [go_sem, *]) ?_; try w_num)
    | refine Run.ret ?_
  refine Run.leave1 rfl rfl Try.func23 rfl ?_
  exact hK _ _ _ ⟨rfl, rfl, rfl⟩
set_option maxRecDepth 100000 in
set_option maxHeartbeats 4000000 in
theorem right_3 {i n : Int} (d0 : decide (0 ≤ i) = true) (d1 : decide (i < 8) = true) (d2 : decide (0 ≤ n) = false) : Con Try.prog X 23 #[.int .i64 i, .int .i64 n] w (fun X' v w' => X' = X ∧ w' = w ∧ v = .bool false) := by
  refine ⟨Try.f23, _, Try.func23, nm23, rfl, fun b₀ a₀ ops₀ n₀ rest₀ k₀ cs hK => ?_⟩
  walk_nrmf Try.f23
  repeat first
    | refine Run.seq ?_
    | refine Run.skip ?_
    | refine Run.regionEnd ?_
    | refine Run.block ?_
    | refine Run.inBlock ?_
    | (refine Run.region ?_; simp only [List.size_toArray, List.length_cons, List.length_nil, Nat.reduceAdd, Nat.zero_add, List.range, List.range.loop])
    | (refine Run.cond rfl ?_; simp only [if_true, if_false, Bool.false_eq_true, ↓reduceIte])
    | (refine Run.unwanted rfl rfl ?_; walk_nrm)
    | (refine Run.op0 rfl rfl (by k_ne) (fun d K hK => by go_simp; exact hK) (fun d => by simp [go_sem, *]) ?_; try w_num)
    | refine Run.ret ?_
  refine Run.leave1 rfl rfl Try.func23 rfl ?_
  exact hK _ _ _ ⟨rfl, rfl, rfl⟩
set_option maxRecDepth 100000 in
set_option maxHeartbeats 4000000 in
theorem right_4 {i n : Int} (d0 : decide (0 ≤ i) = true) (d1 : decide (i < 8) = true) (d2 : decide (0 ≤ n) = true) : Con Try.prog X 23 #[.int .i64 i, .int .i64 n] w (fun X' v w' => X' = X ∧ w' = w ∧ v = .bool (decide (n ≤ 1073741824))) := by
  refine ⟨Try.f23, _, Try.func23, nm23, rfl, fun b₀ a₀ ops₀ n₀ rest₀ k₀ cs hK => ?_⟩
  walk_nrmf Try.f23
  repeat first
    | refine Run.seq ?_
    | refine Run.skip ?_
    | refine Run.regionEnd ?_
    | refine Run.block ?_
    | refine Run.inBlock ?_
    | (refine Run.region ?_; simp only [List.size_toArray, List.length_cons, List.length_nil, Nat.reduceAdd, Nat.zero_add, List.range, List.range.loop])
    | (refine Run.cond rfl ?_; simp only [if_true, if_false, Bool.false_eq_true, ↓reduceIte])
    | (refine Run.unwanted rfl rfl ?_; walk_nrm)
    | (refine Run.op0 rfl rfl (by k_ne) (fun d K hK => by go_simp; exact hK) (fun d => by simp [go_sem, *]) ?_; try w_num)
    | refine Run.ret ?_
  refine Run.leave1 rfl rfl Try.func23 rfl ?_
  exact hK _ _ _ ⟨rfl, rfl, rfl⟩
theorem right_con (i n : Int) : Con Try.prog X 23 #[.int .i64 i, .int .i64 n] w (fun X' v w' => X' = X ∧ w' = w ∧ v = .bool (okStep i n)) := by
  unfold okStep
  cases h1 : decide (0 ≤ i) with
  | false => exact (right_1 h1).mono fun _ _ _ h => by simpa using h
  | true =>
    cases h2 : decide (i < 8) with
    | false => exact (right_2 h1 h2).mono fun _ _ _ h => by simpa using h
    | true =>
      cases h3 : decide (0 ≤ n) with
      | false => exact (right_3 h1 h2 h3).mono fun _ _ _ h => by simpa using h
      | true => exact (right_4 h1 h2 h3).mono fun _ _ _ h => by simpa using h
set_option maxRecDepth 100000 in
set_option maxHeartbeats 4000000 in
theorem add_no {i d : Int} (hr : okStep i d = false) : Con Try.prog X 10 #[.pointer (some ⟨T, 0, none⟩), .int .i64 i, .int .i64 d] w (fun X' v w' => X' = X ∧ w' = w ∧ v = .int .i64 1) := by
  have evn := ev_nilptr ⟨T, 0, none⟩
  refine ⟨Try.f10, _, Try.func10, nm10, rfl, fun b₀ a₀ ops₀ n₀ rest₀ k₀ cs hK => ?_⟩
  walk_nrmf Try.f10
  repeat first
    | refine Run.seq ?_
    | refine Run.skip ?_
    | refine Run.regionEnd ?_
    | refine Run.block ?_
    | refine Run.inBlock ?_
    | (refine Run.region ?_; simp only [List.size_toArray, List.length_cons, List.length_nil, Nat.reduceAdd, Nat.zero_add, List.range, List.range.loop])
    | (refine Run.cond rfl ?_; simp only [if_true, if_false, Bool.false_eq_true, ↓reduceIte])
    | (refine Run.unwanted rfl rfl ?_; walk_nrm)
    | (refine Run.op0 rfl rfl (by k_ne) (fun d K hK => by go_simp; exact hK) (fun d => by simp [go_sem, *]) ?_; try w_num)
    | refine Run.ret ?_
  refine Run.con (right_con i d) rfl rfl (by k_ne) rfl (by simp only [List.map_toArray, List.map_cons, List.map_nil]; rfl) (fun X' v w' h => ?_)
  obtain ⟨rfl, rfl, rfl⟩ := h
  rw [hr]
  walk_nrm
  repeat first
    | refine Run.seq ?_
    | refine Run.skip ?_
    | refine Run.regionEnd ?_
    | refine Run.block ?_
    | refine Run.inBlock ?_
    | (refine Run.region ?_; simp only [List.size_toArray, List.length_cons, List.length_nil, Nat.reduceAdd, Nat.zero_add, List.range, List.range.loop])
    | (refine Run.cond rfl ?_; simp only [if_true, if_false, Bool.false_eq_true, ↓reduceIte])
    | (refine Run.unwanted rfl rfl ?_; walk_nrm)
    | (refine Run.op0 rfl rfl (by k_ne) (fun d K hK => by go_simp; exact hK) (fun d => by simp [go_sem, *]) ?_; try w_num)
    | refine Run.ret ?_
  refine Run.leave1 rfl rfl Try.func10 rfl ?_
  exact hK _ _ _ ⟨rfl, rfl, rfl⟩
set_option maxRecDepth 100000 in
set_option maxHeartbeats 4000000 in
theorem add_yes (hB : T < X.B) (h : TlAt T x w) {c : Nat} (hc : c < 8) {d : Int} (hr : okStep (c : Int) d = true) : Con Try.prog X 10 #[.pointer (some ⟨T, 0, none⟩), .int .i64 (c : Int), .int .i64 d] w
    (fun X' v w' => X' = X ∧ v = .int .i64 0 ∧ TlAt T { x with cs := fun a => if a = c then w64 (x.cs c + d) else x.cs a, most := if d ≤ x.most then x.most else d } w' ∧ Aside T w w') := by
  have evn := ev_nilptr ⟨T, 0, none⟩
  refine ⟨Try.f10, _, Try.func10, nm10, rfl, fun b₀ a₀ ops₀ n₀ rest₀ k₀ cs hK => ?_⟩
  walk_nrmf Try.f10
  repeat first
    | refine Run.seq ?_
    | refine Run.skip ?_
    | refine Run.regionEnd ?_
    | refine Run.block ?_
    | refine Run.inBlock ?_
    | (refine Run.region ?_; simp only [List.size_toArray, List.length_cons, List.length_nil, Nat.reduceAdd, Nat.zero_add, List.range, List.range.loop])
    | (refine Run.cond rfl ?_; simp only [if_true, if_false, Bool.false_eq_true, ↓reduceIte])
    | (refine Run.unwanted rfl rfl ?_; walk_nrm)
    | (refine Run.op0 rfl rfl (by k_ne) (fun d K hK => by go_simp; exact hK) (fun d => by simp [go_sem, *]) ?_; try w_num)
    | refine Run.ret ?_
  refine Run.con (right_con c d) rfl rfl (by k_ne) rfl (by simp only [List.map_toArray, List.map_cons, List.map_nil]; rfl) (fun X' v w' h => ?_)
  obtain ⟨rfl, rfl, rfl⟩ := h
  rw [hr]
  walk_nrm
  repeat first
    | refine Run.seq ?_
    | refine Run.skip ?_
    | refine Run.regionEnd ?_
    | refine Run.block ?_
    | refine Run.inBlock ?_
    | (refine Run.region ?_; simp only [List.size_toArray, List.length_cons, List.length_nil, Nat.reduceAdd, Nat.zero_add, List.range, List.range.loop])
    | (refine Run.cond rfl ?_; simp only [if_true, if_false, Bool.false_eq_true, ↓reduceIte])
    | (refine Run.unwanted rfl rfl ?_; walk_nrm)
    | (refine Run.op0 rfl rfl (by k_ne) (fun d K hK => by go_simp; exact hK) (fun d => by simp [go_sem, *]) ?_; try w_num)
    | refine Run.ret ?_
  refine Run.con (gadd_con hB h hc d) rfl rfl (by k_ne) rfl (by simp only [List.map_toArray, List.map_cons, List.map_nil]; rfl) (fun X' v w' h => ?_)
  obtain ⟨rfl, h2, h3⟩ := h
  walk_nrm
  repeat first
    | refine Run.seq ?_
    | refine Run.skip ?_
    | refine Run.regionEnd ?_
    | refine Run.block ?_
    | refine Run.inBlock ?_
    | (refine Run.region ?_; simp only [List.size_toArray, List.length_cons, List.length_nil, Nat.reduceAdd, Nat.zero_add, List.range, List.range.loop])
    | (refine Run.cond rfl ?_; simp only [if_true, if_false, Bool.false_eq_true, ↓reduceIte])
    | (refine Run.unwanted rfl rfl ?_; walk_nrm)
    | (refine Run.op0 rfl rfl (by k_ne) (fun d K hK => by go_simp; exact hK) (fun d => by simp [go_sem, *]) ?_; try w_num)
    | refine Run.ret ?_
  refine Run.leave1 rfl rfl Try.func10 rfl ?_
  exact hK _ _ _ ⟨rfl, rfl, h2, h3⟩
end
end Go.Proofs.Ytboiolnnhmlieaa.Gang
