
/-
  A worker of Draw: its birth, its loop, its Done, its end.
  Conditions: stated lemma by lemma.
-/
import Derived.Test.YtboiolnnhmlieaaGb16
namespace Go.Proofs.Ytboiolnnhmlieaa.Gang
open Go.Conc Go.ConcN Go.RowKit Go.Conc.Lib Go.ConcR.Gen Go.ConcN.Gen
open Go.ConcR (wgBlock WgAt stA smA rd wr KK)
set_option linter.unusedVariables false
set_option linter.unusedSimpArgs false
theorem quitsEnd35 (Tm : Array Value) (todo : List Item) : QuitsD Try.prog 2 0 (G { (baseD 35).at ⟨Tm, []⟩ todo with mode := .returning } [botF]) := by
  refine QuitsD.ctl (g' := G botF []) rfl (fun w => ?_) ?_
  · simp [G, stepG, unwind, doReturn, results, Frame.at, baseD, botF, Try.func35, Try.f35, seen, GStep.after, goexitEntry]
  refine QuitsD.ctl (g' := { G botF [] with status := .finished }) rfl (fun w => ?_) ⟨rfl, rfl⟩
  simp [G, stepG, unwind, botF, goexitEntry, Frame.catches]
  rfl
noncomputable def loop35 : Code := match b35 with | .seq _ (.seq _ (.block _ (.loop c))) => c | _ => .skip
theorem d_enter_fin {n each : Nat} {t0 : Int} (w0 : Nat) {j : Nat} (h : each ≤ j) : (drawBody n each t0).enter (.tick w0 j) = .rel := by
  unfold Body.enter
  rw [if_pos (by show decide (each ≤ j) = true; exact decide_eq_true h)]
theorem d_enter_go {n each : Nat} {t0 : Int} (w0 : Nat) {j : Nat} (h : j < each) : (drawBody n each t0).enter (.tick w0 j) = .body (.tick w0 j) := by
  unfold Body.enter
  rw [if_neg (by show ¬ decide (each ≤ j) = true; simp; omega)]
section
variable {J : Job Try.prog Dx Dl} {T A i be bt ba bw : Nat} {sl : Option Addr} {cap n each w0 : Nat} {tl : Tl} {w w₁ : World}
set_option maxRecDepth 100000 in
set_option maxHeartbeats 8000000 in
theorem drLoop (F : Draws J T A n each tl) (hG : J.Grp) (hty : J.ty = link.tWg) (hw : liveAt J.ty J.Wg w) (hi : (i == 0) = false) (h1 : 1 ≤ i) (hs : ∀ p g w, ¬ J.sit i p g w) (hL : DKid J T A i be bt ba bw sl cap n each w0 w) (hw0 : w0 + 1 = i) (hn : w0 < n) (hN : n * each ≤ 1099511627776) (he : each ≤ 1000) : ∀ (m j : Nat), j + m = each → ∀ (x5 x8 x9 x10 x11 x12 x13 x14 x15 x16 x17 x18 x19 x20 x21 : Value), J.W i ((drawBody n each tl.tick).enter (.tick w0 j)) (G ((baseD 35).at ⟨#[.pointer (some ⟨J.Wg, 0, none⟩), .pointer (some ⟨be, 0, none⟩), .pointer (some ⟨bt, 0, none⟩), .pointer (some ⟨ba, 0, none⟩), .pointer (some ⟨bw, 0, none⟩), x5, .int .i64 (each : Int), .int .i64 (j : Int), x8, x9, x10, x11, x12, x13, x14, x15, x16, x17, x18, x19, x20, x21], [dcall 30 #[.pointer (some ⟨J.Wg, 0, none⟩)]]⟩ [.code loop35, .inLoop loop35, .inBlock 0]) [botF]) w := by
  intro m
  induction m with
  | zero =>
    intro j hj x5 x8 x9 x10 x11 x12 x13 x14 x15 x16 x17 x18 x19 x20 x21
    rw [d_enter_fin w0 (by omega)]
    have hlt : decide ((j : Int) < (each : Int)) = false := decide_eq_false (by omega)
    have hlt' : decide (j < each) = false := decide_eq_false (by omega)
    have q0 : (Pos.rel : Pos Dl).quit = false := rfl
    have hA := fun (Tm : Array Value) (todo : List Item) => doneNeg (J := J) (i := i) (w := w) (cs := [botF]) (c := { (baseD 35).at ⟨Tm, []⟩ todo with mode := .returning }) hG wgLib hi hty hw rfl ⟨2, quitsEnd35 Tm todo⟩
    simp only [body_done, doneFn, Option.getD_some] at hA
    simp only [loop35, b35, Try.f35, Option.getD_some]
    repeat first
      | refine W.seq q0 ?_
      | refine W.skip q0 ?_
      | refine W.regionEnd q0 ?_
      | refine W.block q0 ?_
      | refine W.inBlock q0 ?_
      | refine W.exit q0 rfl ?_
      | (refine W.region q0 ?_; simp only [List.size_toArray, List.length_cons, List.length_nil, Nat.reduceAdd, Nat.zero_add, List.range, List.range.loop])
      | (refine W.cond q0 rfl ?_; simp only [if_true, if_false, Bool.false_eq_true, ↓reduceIte])
      | (refine W.unwanted q0 rfl rfl ?_; walk_nrm)
      | (refine W.opk q0 rfl rfl (by k_ne) (fun w₁ h₁ K hK => by go_simp; exact hK) (fun w₁ h₁ => by first | (simp [go_sem, *] <;> fail) | fail) ?_; try w_num)
      | refine W.ret q0 ?_
      | refine W.fin q0 ?_
    refine W.idle rfl (fun _ => stepG_unwind_enter rfl Try.func30 nm30 rfl) q0 ?_
    walk_nrmf Try.f30
    exact hA _ _
  | succ m ih =>
    intro j hj x5 x8 x9 x10 x11 x12 x13 x14 x15 x16 x17 x18 x19 x20 x21
    have hje : j < each := by omega
    rw [d_enter_go w0 hje]
    have hlt : decide ((j : Int) < (each : Int)) = true := decide_eq_true (by omega)
    have hlt' : decide (j < each) = true := decide_eq_true hje
    have q0 : (Pos.body (.tick w0 j) : Pos Dl).quit = false := rfl
    have q2 : ((drawBody n each tl.tick).enter (.tick w0 (j + 1))).quit = false := d_enter_quit _
    have hwr : IntKind.i64.wrap ((j : Int) + 1) = ((j + 1 : Nat) : Int) := by rw [IntKind.wrap_i64]; omega
    have hI := ih (j + 1) (by omega)
    have hR := fun (x6 x7 x8 x9 x10 x11 x12 x13 x14 x15 x16 x17 x18 x19 x20 x21 : Value) (k : List Item) => draw4 (b := baseD 35) (k := k) (cs := [botF]) (ds := [dcall 30 #[.pointer (some ⟨J.Wg, 0, none⟩)]]) (y0 := .pointer (some ⟨J.Wg, 0, none⟩)) (x6 := x6) (x7 := x7) (x8 := x8) (x9 := x9) (x10 := x10) (x11 := x11) (x12 := x12) (x13 := x13) (x14 := x14) (x15 := x15) (x16 := x16) (x17 := x17) (x18 := x18) (x19 := x19) (x20 := x20) (x21 := x21) F hi h1 hs hL hw0 hje hn rfl rfl rfl hN (by k_ne)
    simp only [ops35, loop35, b35, Try.f35, Option.getD_some] at hR hI ⊢
    repeat first
      | refine W.seq q0 ?_
      | refine W.skip q0 ?_
      | refine W.regionEnd q0 ?_
      | refine W.block q0 ?_
      | refine W.inBlock q0 ?_
      | refine W.exit q0 rfl ?_
      | (refine W.region q0 ?_; simp only [List.size_toArray, List.length_cons, List.length_nil, Nat.reduceAdd, Nat.zero_add, List.range, List.range.loop])
      | (refine W.cond q0 rfl ?_; simp only [if_true, if_false, Bool.false_eq_true, ↓reduceIte])
      | (refine W.unwanted q0 rfl rfl ?_; walk_nrm)
      | (refine W.opk q0 rfl rfl (by k_ne) (fun w₁ h₁ K hK => by go_simp; exact hK) (fun w₁ h₁ => by first | (simp [go_sem, *] <;> fail) | fail) ?_; try w_num)
      | refine W.ret q0 ?_
      | refine W.fin q0 ?_
    refine hR _ _ _ _ _ _ _ _ _ _ _ _ _ _ _ _ _ (fun u => ?_)
    repeat first
      | refine W.seq q2 ?_
      | refine W.skip q2 ?_
      | refine W.regionEnd q2 ?_
      | refine W.block q2 ?_
      | refine W.inBlock q2 ?_
      | refine W.exit q2 rfl ?_
      | (refine W.region q2 ?_; simp only [List.size_toArray, List.length_cons, List.length_nil, Nat.reduceAdd, Nat.zero_add, List.range, List.range.loop])
      | (refine W.cond q2 rfl ?_; simp only [if_true, if_false, Bool.false_eq_true, ↓reduceIte])
      | (refine W.unwanted q2 rfl rfl ?_; walk_nrm)
      | (refine W.opk q2 rfl rfl (by k_ne) (fun w₁ h₁ K hK => by go_simp; exact hK) (fun w₁ h₁ => by first | (simp [go_sem, *] <;> fail) | fail) ?_; try w_num)
      | refine W.ret q2 ?_
      | refine W.fin q2 ?_
    refine W.inLoop q2 ?_
    first | rw [hwr] | rw [show (j : Int) + 1 = ((j + 1 : Nat) : Int) by omega]
    exact hI _ _ _ _ _ _ _ _ _ _ _ _ _ _ _
def call35 (Wg be bt ba bw : Nat) : Deferred := { target := .fn (.func 35) #[.pointer (some ⟨Wg, 0, none⟩), .pointer (some ⟨be, 0, none⟩), .pointer (some ⟨bt, 0, none⟩), .pointer (some ⟨ba, 0, none⟩), .pointer (some ⟨bw, 0, none⟩)], args := #[] }
theorem born35 (Wg be bt ba bw : Nat) (w : World) : stepG Try.prog false (born Try.prog (call35 Wg be bt ba bw)) w =
    .go (G ((baseD 35).at ⟨#[.pointer (some ⟨Wg, 0, none⟩), .pointer (some ⟨be, 0, none⟩), .pointer (some ⟨bt, 0, none⟩), .pointer (some ⟨ba, 0, none⟩), .pointer (some ⟨bw, 0, none⟩), undef, undef, undef, undef, undef, undef, undef, undef, undef, undef, undef, undef, undef, undef, undef, undef, undef], []⟩ [.code b35]) [botF]) w #[] := by
  simp [born, call35, stepG, unwind, callDeferred, invoke, callFunc, Try.func35, Try.f35, seen, GStep.after, G, Frame.enter, Frame.at, baseD, botF, b35]
set_option maxRecDepth 100000 in
set_option maxHeartbeats 8000000 in
theorem kidBorn35 (F : Draws J T A n each tl) (hG : J.Grp) (hty : J.ty = link.tWg) (hw : liveAt J.ty J.Wg w) (hi : (i == 0) = false) (h1 : 1 ≤ i) (hs : ∀ p g w, ¬ J.sit i p g w) (hL : DKid J T A i be bt ba bw sl cap n each w0 w) (hw0 : w0 + 1 = i) (hn : w0 < n) (hN : n * each ≤ 1099511627776) (he : each ≤ 1000) : J.W i ((drawBody n each tl.tick).enter (.tick w0 0)) (born Try.prog (call35 J.Wg be bt ba bw)) w := by
  have q0 : ((drawBody n each tl.tick).enter (.tick w0 0)).quit = false := d_enter_quit _
  have hI := drLoop F hG hty hw hi h1 hs hL hw0 hn hN he each 0 (by omega)
  refine W.idle rfl (fun w₁ => by rw [hi]; exact born35 _ _ _ _ _ w₁) q0 ?_
  simp only [loop35, b35, Try.f35, Option.getD_some] at hI ⊢
  repeat first
    | refine W.seq q0 ?_
    | refine W.skip q0 ?_
    | refine W.regionEnd q0 ?_
    | refine W.block q0 ?_
    | refine W.inBlock q0 ?_
    | refine W.exit q0 rfl ?_
    | (refine W.region q0 ?_; simp only [List.size_toArray, List.length_cons, List.length_nil, Nat.reduceAdd, Nat.zero_add, List.range, List.range.loop])
    | (refine W.cond q0 rfl ?_; simp only [if_true, if_false, Bool.false_eq_true, ↓reduceIte])
    | (refine W.unwanted q0 rfl rfl ?_; walk_nrm)
    | (refine W.opk q0 rfl rfl (by k_ne) (fun w₁ h₁ K hK => by go_simp; exact hK) (fun w₁ h₁ => by first | (simp [go_sem, *] <;> fail) | fail) ?_; try w_num)
    | refine W.ret q0 ?_
    | refine W.fin q0 ?_
  refine W.defer q0 rfl rfl (by k_ne) rfl ?_
  walk_nrm
  repeat first
    | refine W.seq q0 ?_
    | refine W.skip q0 ?_
    | refine W.regionEnd q0 ?_
    | refine W.block q0 ?_
    | refine W.inBlock q0 ?_
    | refine W.exit q0 rfl ?_
    | (refine W.region q0 ?_; simp only [List.size_toArray, List.length_cons, List.length_nil, Nat.reduceAdd, Nat.zero_add, List.range, List.range.loop])
    | (refine W.cond q0 rfl ?_; simp only [if_true, if_false, Bool.false_eq_true, ↓reduceIte])
    | (refine W.unwanted q0 rfl rfl ?_; walk_nrm)
    | (refine W.opk q0 rfl rfl (by k_ne) (fun w₁ h₁ K hK => by go_simp; exact hK) (fun w₁ h₁ => by first | (simp [go_sem, *] <;> fail) | fail) ?_; try w_num)
    | refine W.ret q0 ?_
    | refine W.fin q0 ?_
  refine W.opm q0 rfl rfl (by k_ne) (fun w₁ h₁ K hK => by have f1 := (hL.rely h₁).ev; go_simp; exact hK) (fun w₁ h₁ e he => by
    have f1 := (hL.rely h₁).ev
    simp [go_sem, *] at he
    subst he
    exact hL.says h1 (d_enter_past _) (b := be) (by simp) _) ?_
  try w_num
  repeat first
    | refine W.seq q0 ?_
    | refine W.skip q0 ?_
    | refine W.regionEnd q0 ?_
    | refine W.block q0 ?_
    | refine W.inBlock q0 ?_
    | refine W.exit q0 rfl ?_
    | (refine W.region q0 ?_; simp only [List.size_toArray, List.length_cons, List.length_nil, Nat.reduceAdd, Nat.zero_add, List.range, List.range.loop])
    | (refine W.cond q0 rfl ?_; simp only [if_true, if_false, Bool.false_eq_true, ↓reduceIte])
    | (refine W.unwanted q0 rfl rfl ?_; walk_nrm)
    | (refine W.opk q0 rfl rfl (by k_ne) (fun w₁ h₁ K hK => by go_simp; exact hK) (fun w₁ h₁ => by first | (simp [go_sem, *] <;> fail) | fail) ?_; try w_num)
    | refine W.ret q0 ?_
    | refine W.fin q0 ?_
  refine W.loop q0 ?_
  exact hI _ _ _ _ _ _ _ _ _ _ _ _ _ _ _
end
end Go.Proofs.Ytboiolnnhmlieaa.Gang
