
/-
  A worker of Spread: its birth, its loop, its Done, its end.
  Conditions: stated lemma by lemma.
-/
import Derived.Test.YtboiolnnhmlieaaGb9
import Derived.Test.YtboiolnnhmlieaaGa13
import Derived.Conc.Own2
namespace Go.Proofs.Ytboiolnnhmlieaa.Gang
open Go.Conc Go.ConcN Go.RowKit Go.Conc.Lib Go.ConcR.Gen Go.ConcN.Gen
open Go.ConcR (wgBlock WgAt stA smA rd wr KK)
set_option linter.unusedVariables false
set_option linter.unusedSimpArgs false

theorem nm29 : (Try.f29.name == "runtime.NumGoroutine") = false := by kernel_rfl
theorem nm30 : (Try.f30.name == "runtime.NumGoroutine") = false := by kernel_rfl
/-- each n-th step from number u on -/
def every (n : Nat) (st : List (Nat × Int)) : Nat → Nat → List (Nat × Int)
  | 0, _ => []
  | f + 1, u => if h : u < st.length then st[u] :: every n st f (u + n) else []
theorem every_none {n : Nat} {st : List (Nat × Int)} {f u : Nat} (h : st.length ≤ u) : every n st f u = [] := by
  cases f with
  | zero => rfl
  | succ f => unfold every; rw [dif_neg (by omega)]
theorem every_more {n : Nat} {st : List (Nat × Int)} (hn : 1 ≤ n) : ∀ {f u : Nat}, st.length ≤ u + f → ∀ g, every n st (f + g) u = every n st f u := by
  intro f
  induction f with
  | zero => intro u h g; rw [every_none (by omega), every_none (by omega)]
  | succ f ih =>
    intro u h g
    rw [show f + 1 + g = (f + g) + 1 by omega]
    unfold every
    split
    · rw [ih (by omega) g]
    · rfl
/-- what a worker has of memory -/
structure Kid (J : Job Try.prog Tal Lad) (T i bt bs bn bw : Nat) (sl : Option Addr) (cap n w0 : Nat) (st : List (Nat × Int)) (w : World) : Prop where
  still : ∀ b, b = bt ∨ b = bs ∨ b = bn ∨ b = bw → J.Still i b ∧ b < J.Bd ∧ ∀ o, J.L.Rd i (.cell ⟨b, o, none⟩) ∧ ¬ J.L.Sh (.cell ⟨b, o, none⟩)
  sv : w.cell? ⟨bs, 0, none⟩ = some (.slice sl st.length cap)
  nv : w.cell? ⟨bn, 0, none⟩ = some (.int .i64 (n : Int))
  wv : w.cell? ⟨bw, 0, none⟩ = some (.int .i64 (w0 : Int))
  lent : st ≠ [] → ∃ ar off, sl = some ⟨ar, off, none⟩ ∧ Lent J T i bt bs bn ar off cap n st w
section
variable {J : Job Try.prog Tal Lad} {T i bt bs bn bw cap n w0 : Nat} {sl : Option Addr} {st : List (Nat × Int)} {w w₁ : World}
theorem Kid.rely (h : Kid J T i bt bs bn bw sl cap n w0 st w) (r : J.rely i w w₁) : Kid J T i bt bs bn bw sl cap n w0 st w₁ :=
  ⟨h.still, (cell_rely r (h.still bs (by simp)).1).trans h.sv, (cell_rely r (h.still bn (by simp)).1).trans h.nv, (cell_rely r (h.still bw (by simp)).1).trans h.wv,
   fun hs => let ⟨ar, off, e, hl⟩ := h.lent hs; ⟨ar, off, e, hl.rely r⟩⟩
theorem Kid.says (h : Kid J T i bt bs bn bw sl cap n w0 st w) {p : Pos Lad} (h1 : 1 ≤ i) (hp : past p = false) {b : Nat} (hb : b = bt ∨ b = bs ∨ b = bn ∨ b = bw) (o : Nat) : J.Says i p ⟨.cell ⟨b, o, none⟩, false, false⟩ :=
  says_read (s := false) h1 hp ((h.still b hb).2.2 o).1 ((h.still b hb).2.2 o).2 (h.still b hb).2.1
theorem enter_past {K : Nat} {top : Int} {job : Nat → List (Nat × Int)} {goal : Nat → Int} (l : Lad) : past ((talBody K n top job goal).enter l) = false := by unfold Body.enter; split <;> rfl
noncomputable def botF : Frame := { (default : Frame) with fn := Try.prog.funcs.size, defers := [], mode := .panicking [goexitEntry] }
theorem quitsEnd (Tm : Array Value) (todo : List Item) : QuitsD Try.prog 2 0 (G { (baseD 29).at ⟨Tm, []⟩ todo with mode := .returning } [botF]) := by
  refine QuitsD.ctl (g' := G botF []) rfl (fun w => ?_) ?_
  · simp [G, stepG, unwind, doReturn, results, Frame.at, baseD, botF, Try.func29, Try.f29, seen, GStep.after, goexitEntry]
  refine QuitsD.ctl (g' := { G botF [] with status := .finished }) rfl (fun w => ?_) ⟨rfl, rfl⟩
  simp [G, stepG, unwind, botF, goexitEntry, Frame.catches]
  rfl
noncomputable def loop29 : Code := match b29 with | .seq _ (.seq _ (.block _ (.loop c))) => c | _ => .skip
variable {K : Nat} {ty : TypeId} {r : List Value} {top : Int} {job : Nat → List (Nat × Int)} {goal : Nat → Int}
set_option maxRecDepth 100000 in
set_option maxHeartbeats 8000000 in
theorem kidExit (F : Adds J T ty r K n top job goal) (hG : J.Grp) (hty : J.ty = link.tWg) (hw : liveAt J.ty J.Wg w) (hi : (i == 0) = false) (h1 : 1 ≤ i) (hs : ∀ p g w, ¬ J.sit i p g w) (hL : Kid J T i bt bs bn bw sl cap n w0 st w) {u : Nat} (hu : st.length ≤ u) (x6 x7 x8 x9 x10 x11 x12 x13 x14 x15 x16 x17 x18 x19 x20 x21 x22 x23 x24 x25 : Value) : J.W i .rel (G ((baseD 29).at ⟨#[.pointer (some ⟨J.Wg, 0, none⟩), .pointer (some ⟨bw, 0, none⟩), .pointer (some ⟨bs, 0, none⟩), .pointer (some ⟨bn, 0, none⟩), .pointer (some ⟨bt, 0, none⟩), .int .i64 (u : Int), x6, x7, x8, x9, x10, x11, x12, x13, x14, x15, x16, x17, x18, x19, x20, x21, x22, x23, x24, x25], [dcall 30 #[.pointer (some ⟨J.Wg, 0, none⟩)]]⟩ [.code loop29, .inLoop loop29, .inBlock 0]) [botF]) w := by
  have hlt : decide ((u : Int) < (st.length : Int)) = false := decide_eq_false (by omega)
  have hlt' : decide (u < st.length) = false := decide_eq_false (by omega)
  have q0 : (Pos.rel : Pos Lad).quit = false := rfl
  have hA := fun (Tm : Array Value) (todo : List Item) => doneNeg (J := J) (i := i) (w := w) (cs := [botF]) (c := { (baseD 29).at ⟨Tm, []⟩ todo with mode := .returning }) hG wgLib hi hty hw rfl ⟨2, quitsEnd Tm todo⟩
  simp only [body_done, doneFn, Option.getD_some] at hA
  simp only [loop29, b29, Try.f29, Option.getD_some]
  repeat first
    | refine W.seq q0 ?_
    | refine W.skip q0 ?_
    | refine W.regionEnd q0 ?_
    | refine W.block q0 ?_
    | refine W.inBlock q0 ?_
    | refine W.exit q0 rfl ?_
    | (refine W.region q0 ?_; simp only [List.size_toArray, List.length_cons, List.length_nil, Nat.reduceAdd, Nat.zero_add, List.range, List.range.loop])
    | (refine W.cond q0 rfl ?_; simp only [if_true, if_false, Bool.false_eq_true, ↓reduceIte])
    | (refine W.unwanted q0 rfl rfl ?_; walk_nrm)
    | (refine W.opk q0 rfl rfl (by k_ne) (fun w₁ h₁ K hK => by go_simp; exact hK) (fun w₁ h₁ => by first | (simp [go_sem, *] <;> fail) | fail) ?_; try w_num)
    | refine W.ret q0 ?_
    | refine W.fin q0 ?_
  refine W.opm q0 rfl rfl (by k_ne) (fun w₁ h₁ K hK => by have f1 := (hL.rely h₁).sv; go_simp; exact hK) (fun w₁ h₁ e he => by
    have f1 := (hL.rely h₁).sv
    simp [go_sem, *] at he
    subst he
    exact hL.says h1 rfl (b := bs) (by simp) _) ?_
  try w_num
  repeat first
    | refine W.seq q0 ?_
    | refine W.skip q0 ?_
    | refine W.regionEnd q0 ?_
    | refine W.block q0 ?_
    | refine W.inBlock q0 ?_
    | refine W.exit q0 rfl ?_
    | (refine W.region q0 ?_; simp only [List.size_toArray, List.length_cons, List.length_nil, Nat.reduceAdd, Nat.zero_add, List.range, List.range.loop])
    | (refine W.cond q0 rfl ?_; simp only [if_true, if_false, Bool.false_eq_true, ↓reduceIte])
    | (refine W.unwanted q0 rfl rfl ?_; walk_nrm)
    | (refine W.opk q0 rfl rfl (by k_ne) (fun w₁ h₁ K hK => by go_simp; exact hK) (fun w₁ h₁ => by first | (simp [go_sem, *] <;> fail) | fail) ?_; try w_num)
    | refine W.ret q0 ?_
    | refine W.fin q0 ?_
  refine W.idle rfl (fun _ => stepG_unwind_enter rfl Try.func30 nm30 rfl) q0 ?_
  walk_nrmf Try.f30
  exact hA _ _
set_option maxRecDepth 100000 in
set_option maxHeartbeats 8000000 in
theorem kidLoop (F : Adds J T ty r K n top job goal) (hG : J.Grp) (hty : J.ty = link.tWg) (hw : liveAt J.ty J.Wg w) (hi : (i == 0) = false) (h1 : 1 ≤ i) (hs : ∀ p g w, ¬ J.sit i p g w) (hL : Kid J T i bt bs bn bw sl cap n w0 st w)
    (hn : 1 ≤ n) (hn16 : n ≤ 16) (hlen : st.length ≤ 1152921504606846976) (h8 : ∀ s ∈ st, s.1 < 8) :
    ∀ (f u : Nat), st.length ≤ u + f → u < 2305843009213693952 → ∀ (x6 x7 x8 x9 x10 x11 x12 x13 x14 x15 x16 x17 x18 x19 x20 x21 x22 x23 x24 x25 : Value), J.W i ((talBody K n top job goal).enter (.add (every n st f u))) (G ((baseD 29).at ⟨#[.pointer (some ⟨J.Wg, 0, none⟩), .pointer (some ⟨bw, 0, none⟩), .pointer (some ⟨bs, 0, none⟩), .pointer (some ⟨bn, 0, none⟩), .pointer (some ⟨bt, 0, none⟩), .int .i64 (u : Int), x6, x7, x8, x9, x10, x11, x12, x13, x14, x15, x16, x17, x18, x19, x20, x21, x22, x23, x24, x25], [dcall 30 #[.pointer (some ⟨J.Wg, 0, none⟩)]]⟩ [.code loop29, .inLoop loop29, .inBlock 0]) [botF]) w := by
  intro f
  induction f with
  | zero =>
    intro u hu hu2 x6 x7 x8 x9 x10 x11 x12 x13 x14 x15 x16 x17 x18 x19 x20 x21 x22 x23 x24 x25
    rw [every_none (by omega)]
    exact kidExit F hG hty hw hi h1 hs hL (by omega) x6 x7 x8 x9 x10 x11 x12 x13 x14 x15 x16 x17 x18 x19 x20 x21 x22 x23 x24 x25
  | succ f ih =>
    intro u hu hu2 x6 x7 x8 x9 x10 x11 x12 x13 x14 x15 x16 x17 x18 x19 x20 x21 x22 x23 x24 x25
    by_cases hul : u < st.length
    · have hlt : decide ((u : Int) < (st.length : Int)) = true := decide_eq_true (by omega)
      have hlt' : decide (u < st.length) = true := decide_eq_true hul
      have hE : every n st (f + 1) u = st[u] :: every n st f (u + n) := by rw [every, dif_pos hul]
      rw [hE]
      have q0 : (Pos.body (.add (st[u] :: every n st f (u + n))) : Pos Lad).quit = false := rfl
      have q2 : ((talBody K n top job goal).enter (.add (every n st f (u + n)))).quit = false := enter_quit _
      show J.W i (.body (.add (st[u] :: every n st f (u + n)))) _ w
      obtain ⟨ar, off, hsl, hLe⟩ := hL.lent (by intro e; rw [e] at hul; simp at hul)
      have hR := fun (x6 x7 x8 x9 x10 x11 x12 x13 x14 x15 x16 x17 x18 x19 x20 x21 x22 x23 x24 x25 : Value) (k : List Item) => region4 (b := baseD 29) (k := k) (cs := [botF]) (y0 := .pointer (some ⟨J.Wg, 0, none⟩)) (y1 := .pointer (some ⟨bw, 0, none⟩)) (x6 := x6) (x7 := x7) (x8 := x8) (x9 := x9) (x10 := x10) (x11 := x11) (x12 := x12) (x13 := x13) (x14 := x14) (x15 := x15) (x16 := x16) (x17 := x17) (x18 := x18) (x19 := x19) (x20 := x20) (x21 := x21) (x22 := x22) (x23 := x23) (x24 := x24) (x25 := x25) (ds := [dcall 30 #[.pointer (some ⟨J.Wg, 0, none⟩)]]) F hi h1 hs hLe hul (h8 _ (List.getElem_mem hul)) (l := every n st f (u + n)) (by decide)
      have hI := ih (u + n) (by omega) (by omega)
      have hwr : IntKind.i64.wrap ((u : Int) + (n : Int)) = ((u + n : Nat) : Int) := by rw [IntKind.wrap_i64]; omega
      simp only [ops4, loop29, b29, Try.f29, Option.getD_some] at hR hI ⊢
      repeat first
        | refine W.seq q0 ?_
        | refine W.skip q0 ?_
        | refine W.regionEnd q0 ?_
        | refine W.block q0 ?_
        | refine W.inBlock q0 ?_
        | refine W.exit q0 rfl ?_
        | (refine W.region q0 ?_; simp only [List.size_toArray, List.length_cons, List.length_nil, Nat.reduceAdd, Nat.zero_add, List.range, List.range.loop])
        | (refine W.cond q0 rfl ?_; simp only [if_true, if_false, Bool.false_eq_true, ↓reduceIte])
        | (refine W.unwanted q0 rfl rfl ?_; walk_nrm)
        | (refine W.opk q0 rfl rfl (by k_ne) (fun w₁ h₁ K hK => by go_simp; exact hK) (fun w₁ h₁ => by first | (simp [go_sem, *] <;> fail) | fail) ?_; try w_num)
        | refine W.ret q0 ?_
        | refine W.fin q0 ?_
      refine W.opm q0 rfl rfl (by k_ne) (fun w₁ h₁ K hK => by have f1 := (hL.rely h₁).sv; go_simp; exact hK) (fun w₁ h₁ e he => by
        have f1 := (hL.rely h₁).sv
        simp [go_sem, *] at he
        subst he
        exact hL.says h1 rfl (b := bs) (by simp) _) ?_
      try w_num
      repeat first
        | refine W.seq q0 ?_
        | refine W.skip q0 ?_
        | refine W.regionEnd q0 ?_
        | refine W.block q0 ?_
        | refine W.inBlock q0 ?_
        | refine W.exit q0 rfl ?_
        | (refine W.region q0 ?_; simp only [List.size_toArray, List.length_cons, List.length_nil, Nat.reduceAdd, Nat.zero_add, List.range, List.range.loop])
        | (refine W.cond q0 rfl ?_; simp only [if_true, if_false, Bool.false_eq_true, ↓reduceIte])
        | (refine W.unwanted q0 rfl rfl ?_; walk_nrm)
        | (refine W.opk q0 rfl rfl (by k_ne) (fun w₁ h₁ K hK => by go_simp; exact hK) (fun w₁ h₁ => by first | (simp [go_sem, *] <;> fail) | fail) ?_; try w_num)
        | refine W.ret q0 ?_
        | refine W.fin q0 ?_
      refine hR _ _ _ _ _ _ _ _ _ _ _ _ _ _ _ _ _ _ _ _ _ ?_
      repeat first
        | refine W.seq q2 ?_
        | refine W.skip q2 ?_
        | refine W.regionEnd q2 ?_
        | refine W.block q2 ?_
        | refine W.inBlock q2 ?_
        | refine W.exit q2 rfl ?_
        | (refine W.region q2 ?_; simp only [List.size_toArray, List.length_cons, List.length_nil, Nat.reduceAdd, Nat.zero_add, List.range, List.range.loop])
        | (refine W.cond q2 rfl ?_; simp only [if_true, if_false, Bool.false_eq_true, ↓reduceIte])
        | (refine W.unwanted q2 rfl rfl ?_; walk_nrm)
        | (refine W.opk q2 rfl rfl (by k_ne) (fun w₁ h₁ K hK => by go_simp; exact hK) (fun w₁ h₁ => by first | (simp [go_sem, *] <;> fail) | fail) ?_; try w_num)
        | refine W.ret q2 ?_
        | refine W.fin q2 ?_
      refine W.opm q2 rfl rfl (by k_ne) (fun w₁ h₁ K hK => by have f1 := (hL.rely h₁).nv; go_simp; exact hK) (fun w₁ h₁ e he => by
        have f1 := (hL.rely h₁).nv
        simp [go_sem, *] at he
        subst he
        exact hL.says h1 (enter_past _) (b := bn) (by simp) _) ?_
      try w_num
      repeat first
        | refine W.seq q2 ?_
        | refine W.skip q2 ?_
        | refine W.regionEnd q2 ?_
        | refine W.block q2 ?_
        | refine W.inBlock q2 ?_
        | refine W.exit q2 rfl ?_
        | (refine W.region q2 ?_; simp only [List.size_toArray, List.length_cons, List.length_nil, Nat.reduceAdd, Nat.zero_add, List.range, List.range.loop])
        | (refine W.cond q2 rfl ?_; simp only [if_true, if_false, Bool.false_eq_true, ↓reduceIte])
        | (refine W.unwanted q2 rfl rfl ?_; walk_nrm)
        | (refine W.opk q2 rfl rfl (by k_ne) (fun w₁ h₁ K hK => by go_simp; exact hK) (fun w₁ h₁ => by first | (simp [go_sem, *] <;> fail) | fail) ?_; try w_num)
        | refine W.ret q2 ?_
        | refine W.fin q2 ?_
      refine W.inLoop q2 ?_
      exact hI _ _ _ _ _ _ _ _ _ _ _ _ _ _ _ _ _ _ _ _
    · rw [every_none (by omega)]
      exact kidExit F hG hty hw hi h1 hs hL (by omega) x6 x7 x8 x9 x10 x11 x12 x13 x14 x15 x16 x17 x18 x19 x20 x21 x22 x23 x24 x25
def call29 (Wg bw bs bn bt : Nat) : Deferred := { target := .fn (.func 29) #[.pointer (some ⟨Wg, 0, none⟩), .pointer (some ⟨bw, 0, none⟩), .pointer (some ⟨bs, 0, none⟩), .pointer (some ⟨bn, 0, none⟩), .pointer (some ⟨bt, 0, none⟩)], args := #[] }
theorem born29 (Wg bw bs bn bt : Nat) (w : World) : stepG Try.prog false (born Try.prog (call29 Wg bw bs bn bt)) w =
    .go (G ((baseD 29).at ⟨#[.pointer (some ⟨Wg, 0, none⟩), .pointer (some ⟨bw, 0, none⟩), .pointer (some ⟨bs, 0, none⟩), .pointer (some ⟨bn, 0, none⟩), .pointer (some ⟨bt, 0, none⟩), undef, undef, undef, undef, undef, undef, undef, undef, undef, undef, undef, undef, undef, undef, undef, undef, undef, undef, undef, undef, undef], []⟩ [.code b29]) [botF]) w #[] := by
  simp [born, call29, stepG, unwind, callDeferred, invoke, callFunc, Try.func29, Try.f29, seen, GStep.after, G, Frame.enter, Frame.at, baseD, botF, b29]
set_option maxRecDepth 100000 in
set_option maxHeartbeats 8000000 in
theorem kidBorn (F : Adds J T ty r K n top job goal) (hG : J.Grp) (hty : J.ty = link.tWg) (hw : liveAt J.ty J.Wg w) (hi : (i == 0) = false) (h1 : 1 ≤ i) (hs : ∀ p g w, ¬ J.sit i p g w) (hL : Kid J T i bt bs bn bw sl cap n w0 st w)
    (hn : 1 ≤ n) (hn16 : n ≤ 16) (hlen : st.length ≤ 1152921504606846976) (h8 : ∀ s ∈ st, s.1 < 8) {f : Nat} (hf : st.length ≤ w0 + f) (hw0 : w0 < 2305843009213693952) :
    J.W i ((talBody K n top job goal).enter (.add (every n st f w0))) (born Try.prog (call29 J.Wg bw bs bn bt)) w := by
  have q0 : ((talBody K n top job goal).enter (.add (every n st f w0))).quit = false := enter_quit _
  have hI := kidLoop F hG hty hw hi h1 hs hL hn hn16 hlen h8 f w0 hf hw0
  refine W.idle rfl (fun w₁ => by rw [hi]; exact born29 _ _ _ _ _ w₁) q0 ?_
  simp only [loop29, b29, Try.f29, Option.getD_some] at hI ⊢
  repeat first
    | refine W.seq q0 ?_
    | refine W.skip q0 ?_
    | refine W.regionEnd q0 ?_
    | refine W.block q0 ?_
    | refine W.inBlock q0 ?_
    | refine W.exit q0 rfl ?_
    | (refine W.region q0 ?_; simp only [List.size_toArray, List.length_cons, List.length_nil, Nat.reduceAdd, Nat.zero_add, List.range, List.range.loop])
    | (refine W.cond q0 rfl ?_; simp only [if_true, if_false, Bool.false_eq_true, ↓reduceIte])
    | (refine W.unwanted q0 rfl rfl ?_; walk_nrm)
    | (refine W.opk q0 rfl rfl (by k_ne) (fun w₁ h₁ K hK => by go_simp; exact hK) (fun w₁ h₁ => by first | (simp [go_sem, *] <;> fail) | fail) ?_; try w_num)
    | refine W.ret q0 ?_
    | refine W.fin q0 ?_
  refine W.defer q0 rfl rfl (by k_ne) rfl ?_
  walk_nrm
  repeat first
    | refine W.seq q0 ?_
    | refine W.skip q0 ?_
    | refine W.regionEnd q0 ?_
    | refine W.block q0 ?_
    | refine W.inBlock q0 ?_
    | refine W.exit q0 rfl ?_
    | (refine W.region q0 ?_; simp only [List.size_toArray, List.length_cons, List.length_nil, Nat.reduceAdd, Nat.zero_add, List.range, List.range.loop])
    | (refine W.cond q0 rfl ?_; simp only [if_true, if_false, Bool.false_eq_true, ↓reduceIte])
    | (refine W.unwanted q0 rfl rfl ?_; walk_nrm)
    | (refine W.opk q0 rfl rfl (by k_ne) (fun w₁ h₁ K hK => by go_simp; exact hK) (fun w₁ h₁ => by first | (simp [go_sem, *] <;> fail) | fail) ?_; try w_num)
    | refine W.ret q0 ?_
    | refine W.fin q0 ?_
  refine W.opm q0 rfl rfl (by k_ne) (fun w₁ h₁ K hK => by have f1 := (hL.rely h₁).wv; go_simp; exact hK) (fun w₁ h₁ e he => by
    have f1 := (hL.rely h₁).wv
    simp [go_sem, *] at he
    subst he
    exact hL.says h1 (enter_past _) (b := bw) (by simp) _) ?_
  try w_num
  repeat first
    | refine W.seq q0 ?_
    | refine W.skip q0 ?_
    | refine W.regionEnd q0 ?_
    | refine W.block q0 ?_
    | refine W.inBlock q0 ?_
    | refine W.exit q0 rfl ?_
    | (refine W.region q0 ?_; simp only [List.size_toArray, List.length_cons, List.length_nil, Nat.reduceAdd, Nat.zero_add, List.range, List.range.loop])
    | (refine W.cond q0 rfl ?_; simp only [if_true, if_false, Bool.false_eq_true, ↓reduceIte])
    | (refine W.unwanted q0 rfl rfl ?_; walk_nrm)
    | (refine W.opk q0 rfl rfl (by k_ne) (fun w₁ h₁ K hK => by go_simp; exact hK) (fun w₁ h₁ => by first | (simp [go_sem, *] <;> fail) | fail) ?_; try w_num)
    | refine W.ret q0 ?_
    | refine W.fin q0 ?_
  refine W.loop q0 ?_
  exact hI _ _ _ _ _ _ _ _ _ _ _ _ _ _ _ _ _ _ _ _
end
end Go.Proofs.Ytboiolnnhmlieaa.Gang
