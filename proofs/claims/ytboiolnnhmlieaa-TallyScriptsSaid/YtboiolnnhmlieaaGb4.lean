
/-
  A worker's way through the tally's add: the cell's add, the load of the most, the CompareAndSwap.
  Conditions: stated lemma by lemma.
-/
import Derived.Test.YtboiolnnhmlieaaGb1
import Derived.Test.YtboiolnnhmlieaaGb2
import Derived.Test.YtboiolnnhmlieaaGb3
namespace Go.Proofs.Ytboiolnnhmlieaa.Gang
open Go.Conc Go.ConcN Go.RowKit Go.Conc.Lib Go.ConcR.Gen Go.ConcN.Gen
open Go.ConcR (wgBlock WgAt stA smA rd wr KK)
set_option linter.unusedVariables false
set_option linter.unusedSimpArgs false

theorem nm24 : (Try.f24.name == "runtime.NumGoroutine") = false := by kernel_rfl
theorem nm34 : (Try.f34.name == "runtime.NumGoroutine") = false := by kernel_rfl
theorem nm37 : (Try.f37.name == "runtime.NumGoroutine") = false := by kernel_rfl
theorem nm38 : (Try.f38.name == "runtime.NumGoroutine") = false := by kernel_rfl
theorem nm60 : (Try.f60.name == "runtime.NumGoroutine") = false := by kernel_rfl
theorem nm63 : (Try.f63.name == "runtime.NumGoroutine") = false := by kernel_rfl
theorem nm64 : (Try.f64.name == "runtime.NumGoroutine") = false := by kernel_rfl
theorem bd60 : Try.f60.body.isNone = true := by kernel_rfl
theorem bd63 : Try.f63.body.isNone = true := by kernel_rfl
theorem bd64 : Try.f64.body.isNone = true := by kernel_rfl
theorem nx60 : Extern.findNext Try.f60 = none := by kernel_rfl
theorem nx63 : Extern.findNext Try.f63 = none := by kernel_rfl
theorem nx64 : Extern.findNext Try.f64 = none := by kernel_rfl
theorem ex60 : Extern.find Try.f60 = some (Extern.Atomic.update (Op.intArith .add) .i64 true) := by kernel_rfl
theorem ex63 : Extern.find Try.f63 = some (Extern.Atomic.loadT (.int .i64)) := by kernel_rfl
theorem ex64 : Extern.find Try.f64 = some (Extern.Atomic.casT (.int .i64)) := by kernel_rfl
/-- the tally's block -/
def TalAt (ty : TypeId) (T : Nat) (r : List Value) (x : Tal) (w : World) : Prop :=
  w.heap[T]? = some (.cells #[.int .i64 (x.cs 0), .int .i64 (x.cs 1), .int .i64 (x.cs 2), .int .i64 (x.cs 3), .int .i64 (x.cs 4), .int .i64 (x.cs 5), .int .i64 (x.cs 6), .int .i64 (x.cs 7), .int .i64 x.most,
    r.getD 0 undef, r.getD 1 undef, r.getD 2 undef, r.getD 3 undef, r.getD 4 undef] ty)
section
variable {ty : TypeId} {T : Nat} {r : List Value} {x : Tal} {w : World}
theorem TalAt.cell (h : TalAt ty T r x w) {c : Nat} (hc : c < 8) : w.cell? ⟨T, c, none⟩ = some (.int .i64 (x.cs c)) := by
  unfold TalAt at h
  have : c = 0 ∨ c = 1 ∨ c = 2 ∨ c = 3 ∨ c = 4 ∨ c = 5 ∨ c = 6 ∨ c = 7 := by omega
  rcases this with rfl | rfl | rfl | rfl | rfl | rfl | rfl | rfl <;> simp [World.cell?, h]
theorem TalAt.cellMost (h : TalAt ty T r x w) : w.cell? ⟨T, 8, none⟩ = some (.int .i64 x.most) := by
  unfold TalAt at h
  simp [World.cell?, h]
theorem TalAt.thaw (h : TalAt ty T r x w) (c : Nat) : w.frozen? ⟨T, c, none⟩ = false := by
  unfold TalAt at h
  simp [World.frozen?, h]
theorem TalAt.setMost (h : TalAt ty T r x w) (d : Int) : TalAt ty T r ⟨x.cs, d⟩ (w.setCell ⟨T, 8, none⟩ (.int .i64 d)) := by
  unfold TalAt at h ⊢
  rw [setCell_eq_setRow w T 8 _ ty (0, 0) _ h, setRow_heap w T _ _ ty _ h]
  simp
theorem TalAt.setCs (h : TalAt ty T r x w) {c : Nat} (hc : c < 8) (v : Int) : TalAt ty T r ⟨fun a => if a = c then v else x.cs a, x.most⟩ (w.setCell ⟨T, c, none⟩ (.int .i64 v)) := by
  unfold TalAt at h ⊢
  have hT := (Array.getElem?_eq_some_iff.1 h).1
  have : c = 0 ∨ c = 1 ∨ c = 2 ∨ c = 3 ∨ c = 4 ∨ c = 5 ∨ c = 6 ∨ c = 7 := by omega
  rcases this with rfl | rfl | rfl | rfl | rfl | rfl | rfl | rfl <;> (rw [setCell_eq_setRow w T _ _ ty (0, 0) _ h, setRow_heap w T _ _ ty _ h]; simp)
end
/-- a job whose workers add to the tally in block T -/
structure Adds (J : Job Try.prog Tal Lad) (T : Nat) (ty : TypeId) (r : List Value) (K n : Nat) (top : Int) (job : Nat → List (Nat × Int)) (goal : Nat → Int) : Prop where
  B : J.B = talBody K n top job goal
  shb : J.Shb T
  wg : T ≠ J.Wg
  bd : T < J.Bd
  sh : ∀ o, o < 9 → J.L.Sx (.cell ⟨T, o, none⟩)
  cx : ∀ x w, J.cx x w ↔ TalAt ty T r x w
  okB : ∀ l x, J.okB l x → l.good K top x ∧ x.most ≤ top
section
variable {J : Job Try.prog Tal Lad} {T : Nat} {ty : TypeId} {r : List Value} {K n : Nat} {top : Int} {job : Nat → List (Nat × Int)} {goal : Nat → Int} {i : Nat} {w : World} {b₀ : Frame} {a₀ : Act} {ops₀ : Array Oper} {i₀ : Nat} {rest₀ : List Nat} {k₀ : List Item} {cs : List Frame}
theorem enter_quit (l : Lad) : ((talBody K n top job goal).enter l).quit = false := by unfold Body.enter; split <;> rfl
theorem wrap_w64 (v : Int) : IntKind.i64.wrap v = w64 v := by unfold w64; rw [IntKind.wrap_i64]
noncomputable def addBody : Code := Try.f24.body.getD .skip
noncomputable def addLoopCode : Code := match addBody with | .seq _ (.block _ (.loop c)) => c | _ => .skip
set_option maxRecDepth 100000 in
set_option maxHeartbeats 8000000 in
theorem addLoop (F : Adds J T ty r K n top job goal) (hi : (i == 0) = false) {c : Nat} {d : Int} {l : List (Nat × Int)} (hT : J.W i ((talBody K n top job goal).enter (.add l)) (G (b₀.at (a₀.put ((ops₀[i₀]?).bind (·.dst)) (.tuple #[])) (.inRegion ops₀ rest₀ :: k₀)) cs) w) :
    ∀ (k : Nat) (v6 v7 v8 v9 v10 v11 v12 v13 v14 v15 v16 v17 v18 v19 v20 v21 v22 v23 v24 v25 v26 v27 v28 : Value), J.W i (.body (.load ((c, d) :: l) k)) (G ((base 24).at ⟨#[.pointer (some ⟨T, 0, none⟩), .int .i64 (c : Int), .int .i64 d, undef, undef, undef, v6, v7, v8, v9, v10, v11, v12, v13, v14, v15, v16, v17, v18, v19, v20, v21, v22, v23, v24, v25, v26, v27, v28], []⟩ [.code addLoopCode, .inLoop addLoopCode, .inBlock 0]) (b₀.at a₀ (.inRegion ops₀ (i₀ :: rest₀) :: k₀) :: cs)) w := by
  intro k
  induction k using Nat.strongRecOn with
  | ind k ih => ?_
  intro v6 v7 v8 v9 v10 v11 v12 v13 v14 v15 v16 v17 v18 v19 v20 v21 v22 v23 v24 v25 v26 v27 v28
  have q0 : (Pos.body (.load ((c, d) :: l) k) : Pos Lad).quit = false := rfl
  have q1 : ∀ m, (Pos.body (.cas ((c, d) :: l) m k) : Pos Lad).quit = false := fun _ => rfl
  have q2 : ((talBody K n top job goal).enter (.add l)).quit = false := enter_quit _
  simp only [addLoopCode, addBody, Try.f24, Option.getD_some]
  repeat first
    | refine W.seq q0 ?_
    | refine W.skip q0 ?_
    | refine W.regionEnd q0 ?_
    | refine W.block q0 ?_
    | refine W.inBlock q0 ?_
    | (refine W.region q0 ?_; simp only [List.size_toArray, List.length_cons, List.length_nil, Nat.reduceAdd, Nat.zero_add, List.range, List.range.loop])
    | (refine W.cond q0 rfl ?_; simp only [if_true, if_false, Bool.false_eq_true, ↓reduceIte])
    | (refine W.unwanted q0 rfl rfl ?_; walk_nrm)
    | (refine W.opk q0 rfl rfl (by k_ne) (fun w₁ h₁ K hK => by go_simp; exact hK) (fun w₁ h₁ => by simp [go_sem, *]) ?_; try w_num)
    | refine W.ret q0 ?_
    | (refine W.call q0 rfl rfl (by k_ne) rfl Try.func34 nm34 rfl ?_; walk_nrmf Try.f34)
    | (refine W.call q0 rfl rfl (by k_ne) rfl Try.func37 nm37 rfl ?_; walk_nrmf Try.f37)
    | (refine W.call q0 rfl rfl (by k_ne) rfl Try.func38 nm38 rfl ?_; walk_nrmf Try.f38)
    | (refine W.leave1 q0 rfl rfl Try.func34 rfl ?_; walk_nrm)
    | (refine W.leave1 q0 rfl rfl Try.func37 rfl ?_; walk_nrm)
    | (refine W.leave1 q0 rfl rfl Try.func38 rfl ?_; walk_nrm)
  refine W.body (T := T) hi F.shb F.wg rfl rfl (fun w₁ h₁ x hx hc => ?_)
  have hc' := (F.cx x w₁).1 hc
  obtain ⟨hg, htop⟩ := F.okB _ _ hx
  refine ⟨_, _, _, stepG_load_atomic rfl rfl (by k_ne) rfl Try.func63 nm63 bd63 nx63 .i64 ex63 rfl hc'.cellMost, ?_, Aside.refl T w₁, ?_, ?_⟩
  · rw [F.B]
    have : ((talBody K n top job goal).stp (.load ((c, d) :: l) k) x).1 = x := by simp only [talBody, Lad.stp]; split <;> rfl
    rw [this]; exact hc
  · intro e he
    rw [Array.mem_singleton] at he
    subst he
    exact ev_shared (F.sh 8 (by omega)) F.bd
  · rw [F.B]
    walk_nrm
    by_cases hdm : d ≤ x.most
    · have e : (talBody K n top job goal).enter ((talBody K n top job goal).stp (.load ((c, d) :: l) k) x).2 = (talBody K n top job goal).enter (.add l) := by simp [talBody, Lad.stp, hdm]
      rw [e]
      have hd1 : decide (d ≤ x.most) = true := decide_eq_true hdm
      clear e hx hc hc' hg htop ih h₁
      repeat first
        | refine W.seq q2 ?_
        | refine W.skip q2 ?_
        | refine W.regionEnd q2 ?_
        | refine W.block q2 ?_
        | refine W.inBlock q2 ?_
        | (refine W.region q2 ?_; simp only [List.size_toArray, List.length_cons, List.length_nil, Nat.reduceAdd, Nat.zero_add, List.range, List.range.loop])
        | (refine W.cond q2 rfl ?_; simp only [if_true, if_false, Bool.false_eq_true, ↓reduceIte])
        | (refine W.unwanted q2 rfl rfl ?_; walk_nrm)
        | (refine W.opk q2 rfl rfl (by k_ne) (fun w₁ h₁ K hK => by go_simp; exact hK) (fun w₁ h₁ => by simp [go_sem, *]) ?_; try w_num)
        | refine W.ret q2 ?_
        | (refine W.call q2 rfl rfl (by k_ne) rfl Try.func34 nm34 rfl ?_; walk_nrmf Try.f34)
        | (refine W.call q2 rfl rfl (by k_ne) rfl Try.func37 nm37 rfl ?_; walk_nrmf Try.f37)
        | (refine W.call q2 rfl rfl (by k_ne) rfl Try.func38 nm38 rfl ?_; walk_nrmf Try.f38)
        | (refine W.leave1 q2 rfl rfl Try.func34 rfl ?_; walk_nrm)
        | (refine W.leave1 q2 rfl rfl Try.func37 rfl ?_; walk_nrm)
        | (refine W.leave1 q2 rfl rfl Try.func38 rfl ?_; walk_nrm)
      refine W.leave0 q2 rfl rfl Try.func24 rfl ?_
      walk_nrm
      exact hT
    · have e : (talBody K n top job goal).enter ((talBody K n top job goal).stp (.load ((c, d) :: l) k) x).2 = .body (.cas ((c, d) :: l) x.most k) := by simp [talBody, Lad.stp, hdm, Body.enter, Lad.fin]
      rw [e]
      have hd1 : decide (d ≤ x.most) = false := decide_eq_false hdm
      obtain ⟨m, hm⟩ : ∃ m, m = x.most := ⟨_, rfl⟩
      rw [← hm] at hd1 ⊢
      have q3 : (Pos.body (.cas ((c, d) :: l) m k) : Pos Lad).quit = false := rfl
      clear e hx hc hc' hg htop h₁ hm hdm
      repeat first
        | refine W.seq q3 ?_
        | refine W.skip q3 ?_
        | refine W.regionEnd q3 ?_
        | refine W.block q3 ?_
        | refine W.inBlock q3 ?_
        | (refine W.region q3 ?_; simp only [List.size_toArray, List.length_cons, List.length_nil, Nat.reduceAdd, Nat.zero_add, List.range, List.range.loop])
        | (refine W.cond q3 rfl ?_; simp only [if_true, if_false, Bool.false_eq_true, ↓reduceIte])
        | (refine W.unwanted q3 rfl rfl ?_; walk_nrm)
        | (refine W.opk q3 rfl rfl (by k_ne) (fun w₁ h₁ K hK => by go_simp; exact hK) (fun w₁ h₁ => by simp [go_sem, *]) ?_; try w_num)
        | refine W.ret q3 ?_
        | (refine W.call q3 rfl rfl (by k_ne) rfl Try.func34 nm34 rfl ?_; walk_nrmf Try.f34)
        | (refine W.call q3 rfl rfl (by k_ne) rfl Try.func37 nm37 rfl ?_; walk_nrmf Try.f37)
        | (refine W.call q3 rfl rfl (by k_ne) rfl Try.func38 nm38 rfl ?_; walk_nrmf Try.f38)
        | (refine W.leave1 q3 rfl rfl Try.func34 rfl ?_; walk_nrm)
        | (refine W.leave1 q3 rfl rfl Try.func37 rfl ?_; walk_nrm)
        | (refine W.leave1 q3 rfl rfl Try.func38 rfl ?_; walk_nrm)
      refine W.body (T := T) hi F.shb F.wg rfl rfl (fun w₁ h₁ x hx hc => ?_)
      have hc' := (F.cx x w₁).1 hc
      obtain ⟨hg, htop⟩ := F.okB _ _ hx
      obtain ⟨-, -, hmx, hfu⟩ : _ ∧ k ≤ K ∧ m ≤ x.most ∧ top - m + 1 ≤ k := hg
      by_cases hm : x.most = m
      · have e : (talBody K n top job goal).stp (.cas ((c, d) :: l) m k) x = (⟨x.cs, d⟩, .add l) := by simp [talBody, Lad.stp, hm]
        refine ⟨_, _, _, stepG_cas_hit (v := m) (n := d) rfl rfl (by k_ne) rfl Try.func64 nm64 bd64 nx64 .i64 ex64 rfl rfl rfl (by rw [← hm]; exact hc'.cellMost) (hc'.thaw 8), ?_, aside_setCell w₁ ⟨T, 8, none⟩ _, ?_, ?_⟩
        · rw [F.B, e]
          exact (F.cx _ _).2 (hc'.setMost d)
        · intro e' he
          simp only [List.mem_toArray, List.mem_cons, List.not_mem_nil, or_false] at he
          rcases he with rfl | rfl <;> exact ev_shared (F.sh 8 (by omega)) F.bd
        · rw [F.B, e]
          clear e hx hc hc' htop ih h₁ hmx hfu hm
          walk_nrm
          repeat first
            | refine W.seq q2 ?_
            | refine W.skip q2 ?_
            | refine W.regionEnd q2 ?_
            | refine W.block q2 ?_
            | refine W.inBlock q2 ?_
            | (refine W.region q2 ?_; simp only [List.size_toArray, List.length_cons, List.length_nil, Nat.reduceAdd, Nat.zero_add, List.range, List.range.loop])
            | (refine W.cond q2 rfl ?_; simp only [if_true, if_false, Bool.false_eq_true, ↓reduceIte])
            | (refine W.unwanted q2 rfl rfl ?_; walk_nrm)
            | (refine W.opk q2 rfl rfl (by k_ne) (fun w₁ h₁ K hK => by go_simp; exact hK) (fun w₁ h₁ => by simp [go_sem, *]) ?_; try w_num)
            | refine W.ret q2 ?_
            | (refine W.call q2 rfl rfl (by k_ne) rfl Try.func34 nm34 rfl ?_; walk_nrmf Try.f34)
            | (refine W.call q2 rfl rfl (by k_ne) rfl Try.func37 nm37 rfl ?_; walk_nrmf Try.f37)
            | (refine W.call q2 rfl rfl (by k_ne) rfl Try.func38 nm38 rfl ?_; walk_nrmf Try.f38)
            | (refine W.leave1 q2 rfl rfl Try.func34 rfl ?_; walk_nrm)
            | (refine W.leave1 q2 rfl rfl Try.func37 rfl ?_; walk_nrm)
            | (refine W.leave1 q2 rfl rfl Try.func38 rfl ?_; walk_nrm)
          refine W.leave0 q2 rfl rfl Try.func24 rfl ?_
          walk_nrm
          exact hT
      · have e : (talBody K n top job goal).stp (.cas ((c, d) :: l) m k) x = (x, .load ((c, d) :: l) (k - 1)) := by simp [talBody, Lad.stp, hm]
        refine ⟨_, _, _, stepG_cas_miss (v := x.most) (old := m) (n := d) rfl rfl (by k_ne) rfl Try.func64 nm64 bd64 nx64 .i64 ex64 rfl rfl rfl hc'.cellMost (hc'.thaw 8) hm, ?_, Aside.refl T w₁, ?_, ?_⟩
        · rw [F.B, e]
          exact hc
        · intro e' he
          rw [Array.mem_singleton] at he
          subst he
          exact ev_shared (F.sh 8 (by omega)) F.bd
        · rw [F.B, e]
          have hk : k - 1 < k := by omega
          have q4 : (Pos.body (.load ((c, d) :: l) (k - 1)) : Pos Lad).quit = false := rfl
          show J.W i (.body (.load ((c, d) :: l) (k - 1))) _ w
          clear e hx hc hc' htop h₁ hmx hfu hm
          walk_nrm
          repeat first
            | refine W.seq q4 ?_
            | refine W.skip q4 ?_
            | refine W.regionEnd q4 ?_
            | refine W.block q4 ?_
            | refine W.inBlock q4 ?_
            | (refine W.region q4 ?_; simp only [List.size_toArray, List.length_cons, List.length_nil, Nat.reduceAdd, Nat.zero_add, List.range, List.range.loop])
            | (refine W.cond q4 rfl ?_; simp only [if_true, if_false, Bool.false_eq_true, ↓reduceIte])
            | (refine W.unwanted q4 rfl rfl ?_; walk_nrm)
            | (refine W.opk q4 rfl rfl (by k_ne) (fun w₁ h₁ K hK => by go_simp; exact hK) (fun w₁ h₁ => by simp [go_sem, *]) ?_; try w_num)
            | refine W.ret q4 ?_
            | (refine W.call q4 rfl rfl (by k_ne) rfl Try.func34 nm34 rfl ?_; walk_nrmf Try.f34)
            | (refine W.call q4 rfl rfl (by k_ne) rfl Try.func37 nm37 rfl ?_; walk_nrmf Try.f37)
            | (refine W.call q4 rfl rfl (by k_ne) rfl Try.func38 nm38 rfl ?_; walk_nrmf Try.f38)
            | (refine W.leave1 q4 rfl rfl Try.func34 rfl ?_; walk_nrm)
            | (refine W.leave1 q4 rfl rfl Try.func37 rfl ?_; walk_nrm)
            | (refine W.leave1 q4 rfl rfl Try.func38 rfl ?_; walk_nrm)
          refine W.inLoop q4 ?_
          exact ih (k - 1) hk _ _ _ _ _ _ _ _ _ _ _ _ _ _ _ _ _ _ _ _ _ _ _
set_option maxRecDepth 100000 in
set_option maxHeartbeats 8000000 in
/-- THE TALLY's add, from its entry -/
theorem addAll (F : Adds J T ty r K n top job goal) (hi : (i == 0) = false) {c : Nat} (hc8 : c < 8) {d : Int} {l : List (Nat × Int)} (hT : J.W i ((talBody K n top job goal).enter (.add l)) (G (b₀.at (a₀.put ((ops₀[i₀]?).bind (·.dst)) (.tuple #[])) (.inRegion ops₀ rest₀ :: k₀)) cs) w) :
    J.W i (.body (.add ((c, d) :: l))) (G ((base 24).at ⟨#[.pointer (some ⟨T, 0, none⟩), .int .i64 (c : Int), .int .i64 d, undef, undef, undef, undef, undef, undef, undef, undef, undef, undef, undef, undef, undef, undef, undef, undef, undef, undef, undef, undef, undef, undef, undef, undef, undef, undef], []⟩ [.code addBody]) (b₀.at a₀ (.inRegion ops₀ (i₀ :: rest₀) :: k₀) :: cs)) w := by
  have hci : (c : Int) < 8 := by omega
  have evi : ∀ (w : World) (es : Array Event), (Instr.indexAt 55 (.pointer (some ⟨T, 0, none⟩)) (.int .i64 (c : Int))).events Try.prog w es = es := fun w es => events_indexAt_array 55 54 8 _ _ _ Try.underlying55 ⟨by omega, hci⟩
  have hL := addLoop (b₀ := b₀) (a₀ := a₀) (ops₀ := ops₀) (i₀ := i₀) (rest₀ := rest₀) (k₀ := k₀) (cs := cs) (c := c) (d := d) F hi hT K
  have q0 : (Pos.body (.add ((c, d) :: l)) : Pos Lad).quit = false := rfl
  have q1 : (Pos.body (.load ((c, d) :: l) K) : Pos Lad).quit = false := rfl
  simp only [addLoopCode, addBody, Try.f24, Option.getD_some] at hL ⊢
  repeat first
    | refine W.seq q0 ?_
    | refine W.skip q0 ?_
    | refine W.regionEnd q0 ?_
    | refine W.block q0 ?_
    | refine W.inBlock q0 ?_
    | (refine W.region q0 ?_; simp only [List.size_toArray, List.length_cons, List.length_nil, Nat.reduceAdd, Nat.zero_add, List.range, List.range.loop])
    | (refine W.cond q0 rfl ?_; simp only [if_true, if_false, Bool.false_eq_true, ↓reduceIte])
    | (refine W.unwanted q0 rfl rfl ?_; walk_nrm)
    | (refine W.opk q0 rfl rfl (by k_ne) (fun w₁ h₁ K hK => by go_simp; exact hK) (fun w₁ h₁ => by simp [go_sem, *]) ?_; try w_num)
    | refine W.ret q0 ?_
    | (refine W.call q0 rfl rfl (by k_ne) rfl Try.func34 nm34 rfl ?_; walk_nrmf Try.f34)
    | (refine W.call q0 rfl rfl (by k_ne) rfl Try.func37 nm37 rfl ?_; walk_nrmf Try.f37)
    | (refine W.call q0 rfl rfl (by k_ne) rfl Try.func38 nm38 rfl ?_; walk_nrmf Try.f38)
    | (refine W.leave1 q0 rfl rfl Try.func34 rfl ?_; walk_nrm)
    | (refine W.leave1 q0 rfl rfl Try.func37 rfl ?_; walk_nrm)
    | (refine W.leave1 q0 rfl rfl Try.func38 rfl ?_; walk_nrm)
  refine W.body (T := T) hi F.shb F.wg rfl rfl (fun w₁ h₁ x hx hc => ?_)
  have hc' := (F.cx x w₁).1 hc
  have e : (talBody K n top job goal).stp (.add ((c, d) :: l)) x = (⟨fun a => if a = c then w64 (x.cs c + d) else x.cs a, x.most⟩, .load ((c, d) :: l) K) := rfl
  refine ⟨_, _, _, stepG_add_atomic rfl rfl (by k_ne) rfl Try.func60 nm60 bd60 nx60 .i64 ex60 rfl rfl (hc'.cell hc8) (hc'.thaw c), ?_, aside_setCell w₁ ⟨T, c, none⟩ _, ?_, ?_⟩
  · rw [F.B, e, wrap_w64]
    exact (F.cx _ _).2 (hc'.setCs hc8 _)
  · intro e' he
    simp only [List.mem_toArray, List.mem_cons, List.not_mem_nil, or_false] at he
    rcases he with rfl | rfl <;> exact ev_shared (F.sh c (by omega)) F.bd
  · rw [F.B, e]
    show J.W i (.body (.load ((c, d) :: l) K)) _ w
    clear e hx hc hc' h₁ evi
    walk_nrm
    repeat first
      | refine W.seq q1 ?_
      | refine W.skip q1 ?_
      | refine W.regionEnd q1 ?_
      | refine W.block q1 ?_
      | refine W.inBlock q1 ?_
      | (refine W.region q1 ?_; simp only [List.size_toArray, List.length_cons, List.length_nil, Nat.reduceAdd, Nat.zero_add, List.range, List.range.loop])
      | (refine W.cond q1 rfl ?_; simp only [if_true, if_false, Bool.false_eq_true, ↓reduceIte])
      | (refine W.unwanted q1 rfl rfl ?_; walk_nrm)
      | (refine W.opk q1 rfl rfl (by k_ne) (fun w₁ h₁ K hK => by go_simp; exact hK) (fun w₁ h₁ => by simp [go_sem, *]) ?_; try w_num)
      | refine W.ret q1 ?_
      | (refine W.call q1 rfl rfl (by k_ne) rfl Try.func34 nm34 rfl ?_; walk_nrmf Try.f34)
      | (refine W.call q1 rfl rfl (by k_ne) rfl Try.func37 nm37 rfl ?_; walk_nrmf Try.f37)
      | (refine W.call q1 rfl rfl (by k_ne) rfl Try.func38 nm38 rfl ?_; walk_nrmf Try.f38)
      | (refine W.leave1 q1 rfl rfl Try.func34 rfl ?_; walk_nrm)
      | (refine W.leave1 q1 rfl rfl Try.func37 rfl ?_; walk_nrm)
      | (refine W.leave1 q1 rfl rfl Try.func38 rfl ?_; walk_nrm)
    refine W.loop q1 ?_
    exact hL _ _ _ _ _ _ _ _ _ _ _ _ _ _ _ _ _ _ _ _ _ _ _
end
end Go.Proofs.Ytboiolnnhmlieaa.Gang
