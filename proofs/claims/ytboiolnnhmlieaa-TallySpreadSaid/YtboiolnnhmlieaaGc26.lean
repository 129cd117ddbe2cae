
/-
  Lists of steps turned round; what adding one by one leaves. TallySpread: its walk.
  Conditions: stated lemma by lemma.
-/
import Derived.Test.YtboiolnnhmlieaaGc19
import Derived.Great.BuildSlice
import Derived.Lib.Hide
namespace Go.Proofs.Ytboiolnnhmlieaa.Gang
open Go.Conc Go.ConcN Go.RowKit Go.Conc.Lib Go.ConcR.Gen Go.ConcN.Gen
set_option linter.unusedVariables false
set_option linter.unusedSimpArgs false
theorem lsum_app (c : Nat) : ∀ (a b : List (Nat × Int)), lsum c (a ++ b) = lsum c a + lsum c b
  | [], b => by simp [lsum]
  | s :: a, b => by
    rw [List.cons_append, lsum, lsum, lsum_app c a b]
    omega
theorem lsum_rev (c : Nat) : ∀ (a : List (Nat × Int)), lsum c a.reverse = lsum c a
  | [] => rfl
  | s :: a => by
    rw [List.reverse_cons, lsum_app, lsum_rev c a, lsum, lsum, lsum]
    omega
theorem lmax_rev (m : Int) (a : List (Nat × Int)) : lmax m a.reverse = lmax m a := by
  apply Int.le_antisymm
  · rcases lmax_hit (l := a.reverse) (m := m) with h | ⟨s, h1, h2⟩
    · rw [h]; exact lmax_ge
    · rw [← h2]; exact lmax_mem s (by simpa using h1)
  · rcases lmax_hit (l := a) (m := m) with h | ⟨s, h1, h2⟩
    · rw [h]; exact lmax_ge
    · rw [← h2]; exact lmax_mem s (by simpa using h1)
theorem nats_rev (xs : List (Int × Int)) : nats xs.reverse = (nats xs).reverse := by simp [nats]
theorem ok_rev {xs : List (Int × Int)} {n : Int} : SpreadOk xs.reverse n ↔ SpreadOk xs n := by
  unfold SpreadOk
  rw [List.any_reverse]
/-- what adding one by one leaves -/
def cTl (st : List (Nat × Int)) : Tl := ⟨fun c => w64 (lsum c st), lmax 0 st, 0, false, 0⟩
theorem cTl_nil : cTl [] = tl0 := by
  unfold cTl tl0
  congr 1
theorem cTl_snoc (st : List (Nat × Int)) (c : Nat) (d : Int) : ({ cTl st with cs := fun a => if a = c then w64 ((cTl st).cs c + d) else (cTl st).cs a, most := if d ≤ (cTl st).most then (cTl st).most else d } : Tl) = cTl (st ++ [(c, d)]) := by
  unfold cTl
  simp only [lmax_snoc]
  congr 1
  · funext a
    rw [lsum_app, lsum, lsum]
    by_cases h : a = c
    · subst h
      simp only [if_true, Int.add_zero]
      exact w64_add _ _
    · rw [if_neg h, if_neg (by intro e; exact h e.symm)]
      simp
  · by_cases h : d ≤ lmax 0 st
    · rw [if_pos h, if_neg (by omega)]
    · rw [if_neg h, if_pos (by omega)]
theorem spread_cs (xs : List (Int × Int)) (c : Nat) : (tl0.spread xs).cs c = (cTl (nats xs)).cs c := by
  show w64 (0 + lsum c (nats xs)) = w64 (lsum c (nats xs))
  rw [Int.zero_add]
theorem spread_most (xs : List (Int × Int)) : (tl0.spread xs).most = (cTl (nats xs)).most := rfl
theorem rev_cs (xs : List (Int × Int)) (c : Nat) : (tl0.spread xs.reverse).cs c = (cTl (nats xs)).cs c := by
  rw [spread_cs, nats_rev]
  show w64 (lsum c _) = w64 (lsum c _)
  rw [lsum_rev]
theorem rev_most (xs : List (Int × Int)) : (tl0.spread xs.reverse).most = (cTl (nats xs)).most := by
  rw [spread_most, nats_rev]
  exact lmax_rev 0 _
end Go.Proofs.Ytboiolnnhmlieaa.Gang
namespace Go.Proofs.Ytboiolnnhmlieaa.Gang
open Go.Conc Go.ConcN Go.RowKit Go.Conc.Lib Go.ConcR.Gen Go.ConcN.Gen
set_option linter.unusedVariables false
set_option linter.unusedSimpArgs false
theorem keep_at' {T : Nat} {w w' : World} (h : Off T w w') (d : Nat) : Off T w (w'.at d) := ⟨h.tape, h.os, h.output, h.size, h.block⟩
theorem mk321' (w : World) (i n : Int) : (Instr.buildSlice 32 1 #[(0, .agg #[.int .i64 i, .int .i64 n])]).run Try.prog w = .ok (.slice (some ⟨w.heap.size, 0, none⟩) 1 1) (w.alloc (.cells #[.int .i64 i, .int .i64 n] 31)) :=
  run_buildSlice w 32 31 1 _ _ _ (.agg #[.int .i64 0, .int .i64 0]) Try.underlying32 info31 (by kernel_rfl) (by decide) (by decide) (by kernel_rfl)
theorem ev321' (w : World) (es : Array Event) (i n : Int) : (Instr.buildSlice 32 1 #[(0, .agg #[.int .i64 i, .int .i64 n])]).events Try.prog w es = es := by
  unfold Instr.buildSlice
  simp [go_sem]
theorem TlAt.block' {T : Nat} {x : Tl} {w w' : World} (h : TlAt T x w) (hb : w'.heap[T]? = w.heap[T]?) : TlAt T x w' := by
  unfold TlAt TalAt at h ⊢
  rw [hb]
  exact h
theorem cells2' {w : World} {b : Nat} {x y : Int} {e : TypeId} (h : w.heap[b]? = some (.cells #[.int .i64 x, .int .i64 y] e)) : w.cell? ⟨b, 0, none⟩ = some (.int .i64 x) ∧ w.cell? ⟨b, 1, none⟩ = some (.int .i64 y) := by
  unfold World.cell?
  simp only [h]
  exact ⟨rfl, rfl⟩
theorem alloc_new' (w : World) (o : Obj) : (w.alloc o).heap[w.heap.size]? = some o := by unfold World.alloc; simp
theorem drop_rev {xs : List (Int × Int)} {m : Nat} (h : m < xs.length) : (xs.drop (m + 1)).reverse ++ [((xs[m]).1, (xs[m]).2)] = (xs.drop m).reverse := by
  rw [List.drop_eq_getElem_cons h, List.reverse_cons]
/-- the code of the three loops -/
noncomputable def loops (p : Code → Bool) : Code → List Code
  | .seq a b => loops p a ++ loops p b
  | .block _ (.loop c) => [c]
  | _ => []
noncomputable def lp1 : Code := (loops (fun _ => true) (Try.f4.body.getD .skip)).getD 0 .skip
noncomputable def lp2 : Code := (loops (fun _ => true) (Try.f4.body.getD .skip)).getD 1 .skip
noncomputable def lp3 : Code := (loops (fun _ => true) (Try.f4.body.getD .skip)).getD 2 .skip
set_option maxRecDepth 100000 in
set_option maxHeartbeats 8000000 in
theorem back_loop (xs : List (Int × Int)) {sl : Option Addr} {cap : Nat} {n : Int} (hlen : xs.length ≤ 4096) {A B C lo : Nat} (hslb : ∀ ar off, sl = some ⟨ar, off, none⟩ → ar < lo) {K : List Item} : ∀ (m : Nat) (i : Int), i = (m : Int) - 1 → m ≤ xs.length → ∀ (X : Cx) (w : World) (v : Value),
    X.ok w → StepsAt sl xs w → X.reads sl → (∀ b, lo ≤ b → ∀ o, ¬ X.Sh (.cell ⟨b, o, none⟩)) → lo ≤ w.heap.size → Own2 w lo v (xs.drop m).reverse →
    (∀ (w' : World) (v : Value) (y2 y3 y10 y11 y12 y13 y14 y15 y16 y17 y18 y19 y20 y21 y22 y23 y24 y25 y26 y27 y28 y29 y30 y31 y32 y33 y34 y35 y36 y37 y38 y39 y40 y41 y42 y43 y44 y45 y46 y47 y48 y49 y50 y51 y52 y53 y54 y55 y56 y57 y58 y59 y60 y61 y62 y63 y64 y65 y66 y67 y68 y69 y70 y71 y72 y73 y74 y75 y76 y77 y78 y79 y80 y81 y82 y83 y84 y85 y86 y87 y88 y89 y90 y91 y92 y93 y94 y95 y96 y97 y98 y99 y100 y101 : Value), Own2 w' lo v xs.reverse → Below lo w w' → Run Try.prog (X.up w'.heap.size) (G ((base 4).at ⟨#[.slice sl xs.length cap, .int .i64 n, y2, y3, .bool false, .pointer (some ⟨A, 0, none⟩), .pointer (some ⟨B, 0, none⟩), .pointer (some ⟨C, 0, none⟩), v, .int .i64 (-1), y10, y11, y12, y13, y14, y15, y16, y17, y18, y19, y20, y21, y22, y23, y24, y25, y26, y27, y28, y29, y30, y31, y32, y33, y34, y35, y36, y37, y38, y39, y40, y41, y42, y43, y44, y45, y46, y47, y48, y49, y50, y51, y52, y53, y54, y55, y56, y57, y58, y59, y60, y61, y62, y63, y64, y65, y66, y67, y68, y69, y70, y71, y72, y73, y74, y75, y76, y77, y78, y79, y80, y81, y82, y83, y84, y85, y86, y87, y88, y89, y90, y91, y92, y93, y94, y95, y96, y97, y98, y99, y100, y101], []⟩ K) []) w') → ∀ (y2 y3 y10 y11 y12 y13 y14 y15 y16 y17 y18 y19 y20 y21 y22 y23 y24 y25 y26 y27 y28 y29 y30 y31 y32 y33 y34 y35 y36 y37 y38 y39 y40 y41 y42 y43 y44 y45 y46 y47 y48 y49 y50 y51 y52 y53 y54 y55 y56 y57 y58 y59 y60 y61 y62 y63 y64 y65 y66 y67 y68 y69 y70 y71 y72 y73 y74 y75 y76 y77 y78 y79 y80 y81 y82 y83 y84 y85 y86 y87 y88 y89 y90 y91 y92 y93 y94 y95 y96 y97 y98 y99 y100 y101 : Value),
    Run Try.prog X (G ((base 4).at ⟨#[.slice sl xs.length cap, .int .i64 n, y2, y3, .bool false, .pointer (some ⟨A, 0, none⟩), .pointer (some ⟨B, 0, none⟩), .pointer (some ⟨C, 0, none⟩), v, .int .i64 i, y10, y11, y12, y13, y14, y15, y16, y17, y18, y19, y20, y21, y22, y23, y24, y25, y26, y27, y28, y29, y30, y31, y32, y33, y34, y35, y36, y37, y38, y39, y40, y41, y42, y43, y44, y45, y46, y47, y48, y49, y50, y51, y52, y53, y54, y55, y56, y57, y58, y59, y60, y61, y62, y63, y64, y65, y66, y67, y68, y69, y70, y71, y72, y73, y74, y75, y76, y77, y78, y79, y80, y81, y82, y83, y84, y85, y86, y87, y88, y89, y90, y91, y92, y93, y94, y95, y96, y97, y98, y99, y100, y101], []⟩ (.code lp1 :: .inLoop lp1 :: .inBlock 0 :: K)) []) w := by
  intro m
  induction m with
  | zero =>
    intro i hi hm X w v hX hst hrd hnw hbw hown hK y2 y3 y10 y11 y12 y13 y14 y15 y16 y17 y18 y19 y20 y21 y22 y23 y24 y25 y26 y27 y28 y29 y30 y31 y32 y33 y34 y35 y36 y37 y38 y39 y40 y41 y42 y43 y44 y45 y46 y47 y48 y49 y50 y51 y52 y53 y54 y55 y56 y57 y58 y59 y60 y61 y62 y63 y64 y65 y66 y67 y68 y69 y70 y71 y72 y73 y74 y75 y76 y77 y78 y79 y80 y81 y82 y83 y84 y85 y86 y87 y88 y89 y90 y91 y92 y93 y94 y95 y96 y97 y98 y99 y100 y101
    obtain rfl : i = -1 := by omega
    clear hi
    replace hK := Lib.hid (fun y2 y3 y10 y11 y12 y13 y14 y15 y16 y17 y18 y19 y20 y21 y22 y23 y24 y25 y26 y27 y28 y29 y30 y31 y32 y33 y34 y35 y36 y37 y38 y39 y40 y41 y42 y43 y44 y45 y46 y47 y48 y49 y50 y51 y52 y53 y54 y55 y56 y57 y58 y59 y60 y61 y62 y63 y64 y65 y66 y67 y68 y69 y70 y71 y72 y73 y74 y75 y76 y77 y78 y79 y80 y81 y82 y83 y84 y85 y86 y87 y88 y89 y90 y91 y92 y93 y94 y95 y96 y97 y98 y99 y100 y101 => hK w v y2 y3 y10 y11 y12 y13 y14 y15 y16 y17 y18 y19 y20 y21 y22 y23 y24 y25 y26 y27 y28 y29 y30 y31 y32 y33 y34 y35 y36 y37 y38 y39 y40 y41 y42 y43 y44 y45 y46 y47 y48 y49 y50 y51 y52 y53 y54 y55 y56 y57 y58 y59 y60 y61 y62 y63 y64 y65 y66 y67 y68 y69 y70 y71 y72 y73 y74 y75 y76 y77 y78 y79 y80 y81 y82 y83 y84 y85 y86 y87 y88 y89 y90 y91 y92 y93 y94 y95 y96 y97 y98 y99 y100 y101 (by simpa using hown) (Below.refl _ _))
    simp only [lp1, loops, Try.f4, Option.getD_some, List.nil_append, List.append_nil, List.cons_append, List.getD_cons_zero, List.getD_cons_succ]
    clear hst
    repeat first
      | refine Run.seq ?_
      | refine Run.skip ?_
      | refine Run.regionEnd ?_
      | refine Run.block ?_
      | refine Run.inBlock ?_
      | (refine Run.region ?_; simp only [List.size_toArray, List.length_cons, List.length_nil, Nat.reduceAdd, Nat.zero_add, List.range, List.range.loop])
      | (refine Run.cond rfl ?_; simp only [if_true, if_false, Bool.false_eq_true, ↓reduceIte])
      | (refine Run.unwanted rfl rfl ?_; walk_nrm)
      | (refine Run.op0 rfl rfl (by k_ne) (fun d K hK => by go_simp; exact hK) (fun d => by first | (simp [go_sem, *] <;> fail) | fail) ?_; try w_num)
      | refine Run.ret ?_
      | refine Run.fin ?_
      | refine Run.exit rfl ?_
    exact Run.up _ (hK.out _ _ _ _ _ _ _ _ _ _ _ _ _ _ _ _ _ _ _ _ _ _ _ _ _ _ _ _ _ _ _ _ _ _ _ _ _ _ _ _ _ _ _ _ _ _ _ _ _ _ _ _ _ _ _ _ _ _ _ _ _ _ _ _ _ _ _ _ _ _ _ _ _ _ _ _ _ _ _ _ _ _ _ _ _ _ _ _ _ _ _ _ _ _)
  | succ m ih =>
    intro i hi hm X w v hX hst hrd hnw hbw hown hK y2 y3 y10 y11 y12 y13 y14 y15 y16 y17 y18 y19 y20 y21 y22 y23 y24 y25 y26 y27 y28 y29 y30 y31 y32 y33 y34 y35 y36 y37 y38 y39 y40 y41 y42 y43 y44 y45 y46 y47 y48 y49 y50 y51 y52 y53 y54 y55 y56 y57 y58 y59 y60 y61 y62 y63 y64 y65 y66 y67 y68 y69 y70 y71 y72 y73 y74 y75 y76 y77 y78 y79 y80 y81 y82 y83 y84 y85 y86 y87 y88 y89 y90 y91 y92 y93 y94 y95 y96 y97 y98 y99 y100 y101
    obtain rfl : i = (m : Int) := by omega
    clear hi
    have hlt : decide ((0 : Int) ≤ (m : Int)) = true := decide_eq_true (by omega)
    have hki : (m : Int) < (xs.length : Int) := by omega
    have hkn : m < xs.length := by omega
    have ew : IntKind.i64.wrap ((m : Int) - 1) = (m : Int) - 1 := by rw [IntKind.wrap_i64]; omega
    obtain ⟨ar, off, rfl, har, hcs⟩ := hst (by intro e; subst e; simp at hkn)
    obtain ⟨c0, c1⟩ := hcs m hkn
    have hAr : X.free ar := hrd ar off rfl
    replace hK := Lib.hid hK
    have m1 := mk321'
    have e1 := ev321'
    replace ih := ih ((m : Int) - 1) rfl (by omega)
    simp only [lp1, loops, Try.f4, Option.getD_some, List.nil_append, List.append_nil, List.cons_append, List.getD_cons_zero, List.getD_cons_succ] at ih ⊢
    replace ih := Lib.hid ih
    repeat first
      | refine Run.seq ?_
      | refine Run.skip ?_
      | refine Run.regionEnd ?_
      | refine Run.block ?_
      | refine Run.inBlock ?_
      | (refine Run.region ?_; simp only [List.size_toArray, List.length_cons, List.length_nil, Nat.reduceAdd, Nat.zero_add, List.range, List.range.loop])
      | (refine Run.cond rfl ?_; simp only [if_true, if_false, Bool.false_eq_true, ↓reduceIte])
      | (refine Run.unwanted rfl rfl ?_; walk_nrm)
      | (refine Run.op0 rfl rfl (by k_ne) (fun d K hK => by go_simp; exact hK) (fun d => by first | (simp [go_sem, *] <;> fail) | fail) ?_; try w_num)
      | refine Run.ret ?_
      | refine Run.fin ?_
      | refine Run.exit rfl ?_
    refine Run.op w rfl rfl (by k_ne) (fun d K hK => by go_simp; exact hK) (fun d e he => by
      simp [go_sem, *] at he
      rcases he with he | he <;> (subst he; exact evL_free hAr)) ?_
    try w_num
    repeat first
      | refine Run.seq ?_
      | refine Run.skip ?_
      | refine Run.regionEnd ?_
      | refine Run.block ?_
      | refine Run.inBlock ?_
      | (refine Run.region ?_; simp only [List.size_toArray, List.length_cons, List.length_nil, Nat.reduceAdd, Nat.zero_add, List.range, List.range.loop])
      | (refine Run.cond rfl ?_; simp only [if_true, if_false, Bool.false_eq_true, ↓reduceIte])
      | (refine Run.unwanted rfl rfl ?_; walk_nrm)
      | (refine Run.op0 rfl rfl (by k_ne) (fun d K hK => by go_simp; exact hK) (fun d => by first | (simp [go_sem, *] <;> fail) | fail) ?_; try w_num)
      | refine Run.ret ?_
      | refine Run.fin ?_
      | refine Run.exit rfl ?_
    refine Run.op (w.alloc (.cells #[.int .i64 (xs[m]).1, .int .i64 (xs[m]).2] 31)) rfl rfl (by k_ne) (fun d K hK => by go_simp; exact hK) (fun d e he => by simp [go_sem, *] at he) ?_
    try w_num
    obtain ⟨M, hM⟩ : ∃ M, w.heap.size = M := ⟨_, rfl⟩
    have hbM : (w.alloc (.cells #[.int .i64 (xs[m]).1, .int .i64 (xs[m]).2] 31)).heap[M]? = some (.cells #[.int .i64 (xs[m]).1, .int .i64 (xs[m]).2] 31) := by rw [← hM]; exact alloc_new' w _
    have hO6 : Off w.heap.size w (w.alloc (.cells #[.int .i64 (xs[m]).1, .int .i64 (xs[m]).2] 31)) := Off.alloc _ w _
    have hs6 : (w.alloc (.cells #[.int .i64 (xs[m]).1, .int .i64 (xs[m]).2] 31)).heap.size = M + 1 := by rw [World.size_alloc, hM]
    have so6 := hO6
    rw [hM] at hO6 har hbw
    simp only [hM]
    generalize w.alloc (.cells #[.int .i64 (xs[m]).1, .int .i64 (xs[m]).2] 31) = w6 at hbM hO6 hs6 so6 ⊢
    refine Run.up w6.heap.size ?_
    have hP6 := Cx.next_up (w' := w6) hX (by omega)
    have hX6 := hP6.ok hX
    have hM6 : (X.up w6.heap.size).free M := ⟨by rw [hP6.B]; omega, hX.new M (by omega)⟩
    have hrd6 : (X.up w6.heap.size).reads (some ⟨ar, off, none⟩) := fun ar off e => hP6.free hX (hrd ar off e)
    have hlo6 : ∀ b, b < M → w6.heap[b]? = w.heap[b]? := fun b hb => hO6.block b (by omega) (by omega)
    have hown6 : Own2 w6 lo v (xs.drop (m + 1)).reverse := hown.heap fun b hb => hlo6 b (by have := (World.ownsRow.lt hown b hb).2; omega)
    have hst6 : StepsAt (some ⟨ar, off, none⟩) xs w6 := hst.keep (by omega) (fun ar' off' e => by cases e; exact hlo6 ar (by omega))
    have hstM : StepsAt (some ⟨M, 0, none⟩) [((xs[m]).1, (xs[m]).2)] w6 := fun _ => ⟨M, 0, rfl, by omega, fun j hj => by
      obtain rfl : j = 0 := by simpa using hj
      exact cells2' hbM⟩
    clear m1 e1 c0 c1 hown hst hO6 hbM hcs
    repeat first
      | refine Run.seq ?_
      | refine Run.skip ?_
      | refine Run.regionEnd ?_
      | refine Run.block ?_
      | refine Run.inBlock ?_
      | (refine Run.region ?_; simp only [List.size_toArray, List.length_cons, List.length_nil, Nat.reduceAdd, Nat.zero_add, List.range, List.range.loop])
      | (refine Run.cond rfl ?_; simp only [if_true, if_false, Bool.false_eq_true, ↓reduceIte])
      | (refine Run.unwanted rfl rfl ?_; walk_nrm)
      | (refine Run.op0 rfl rfl (by k_ne) (fun d K hK => by go_simp; exact hK) (fun d => by first | (simp [go_sem, *] <;> fail) | fail) ?_; try w_num)
      | refine Run.ret ?_
      | refine Run.fin ?_
      | refine Run.exit rfl ?_
    refine Run.app2 (v := v) (xs := (xs.drop (m + 1)).reverse) (ys := [((xs[m]).1, (xs[m]).2)]) (c := 1) (base := lo) rfl rfl (by k_ne) _ _ rfl rfl rfl hown6 hstM (fun ar off e => by cases e; exact hM6) (fun b hb => by
      obtain ⟨h1, h2⟩ := World.ownsRow.lt hown6 b hb
      exact ⟨by rw [hP6.B]; omega, hnw b h1⟩) (by simp only [List.length_reverse, List.length_drop, List.length_cons, List.length_nil]; omega) (by omega) (fun v7 w7 hown7 hg7 => ?_)
    rw [drop_rev hkn] at hown7
    have hlo7 : ∀ b, b < lo → w7.heap[b]? = w6.heap[b]? := fun b hb => hg7.block b (by omega) (fun e => by have := (World.ownsRow.lt hown6 b e.symm).1; omega)
    have hB7 : Below lo w w7 := ⟨hg7.os.trans so6.os, hg7.tape.trans so6.tape, hg7.output.trans so6.output, by have := hg7.size; omega, fun b hb => (hlo7 b hb).trans (hlo6 b (by omega))⟩
    refine Run.up w7.heap.size ?_
    have hP7 := Cx.next_up (w' := w7) hX6 hg7.size
    have hX7 := hP7.ok hX6
    have hrd7 : ((X.up w6.heap.size).up w7.heap.size).reads (some ⟨ar, off, none⟩) := fun ar off e => hP7.free hX6 (hrd6 ar off e)
    have hst7 : StepsAt (some ⟨ar, off, none⟩) xs w7 := hst6.keep (hg7.size) (fun ar' off' e => by cases e; exact hlo7 ar (hslb ar off rfl))
    have hup : ∀ w'' : World, w7.heap.size ≤ w''.heap.size → ((X.up w6.heap.size).up w7.heap.size).up w''.heap.size = X.up w''.heap.size := fun w'' h => by
      rw [Cx.up_up _ (by have := hg7.size; omega), Cx.up_up _ (by have := hg7.size; omega)]
    replace ih := ih.out ((X.up w6.heap.size).up w7.heap.size) w7 v7 hX7 hst7 hrd7 hnw (by have := hg7.size; omega) hown7 (fun w'' v'' y2 y3 y10 y11 y12 y13 y14 y15 y16 y17 y18 y19 y20 y21 y22 y23 y24 y25 y26 y27 y28 y29 y30 y31 y32 y33 y34 y35 y36 y37 y38 y39 y40 y41 y42 y43 y44 y45 y46 y47 y48 y49 y50 y51 y52 y53 y54 y55 y56 y57 y58 y59 y60 y61 y62 y63 y64 y65 y66 y67 y68 y69 y70 y71 y72 y73 y74 y75 y76 y77 y78 y79 y80 y81 y82 y83 y84 y85 y86 y87 y88 y89 y90 y91 y92 y93 y94 y95 y96 y97 y98 y99 y100 y101 ho hb => by
      rw [hup w'' hb.size]
      exact hK.out w'' v'' y2 y3 y10 y11 y12 y13 y14 y15 y16 y17 y18 y19 y20 y21 y22 y23 y24 y25 y26 y27 y28 y29 y30 y31 y32 y33 y34 y35 y36 y37 y38 y39 y40 y41 y42 y43 y44 y45 y46 y47 y48 y49 y50 y51 y52 y53 y54 y55 y56 y57 y58 y59 y60 y61 y62 y63 y64 y65 y66 y67 y68 y69 y70 y71 y72 y73 y74 y75 y76 y77 y78 y79 y80 y81 y82 y83 y84 y85 y86 y87 y88 y89 y90 y91 y92 y93 y94 y95 y96 y97 y98 y99 y100 y101 ho (hB7.trans hb))
    replace ih := Lib.hid ih
    clear hown6 hstM hown7 hst6 hst7 hK hup
    walk_nrm
    repeat first
      | refine Run.seq ?_
      | refine Run.skip ?_
      | refine Run.regionEnd ?_
      | refine Run.block ?_
      | refine Run.inBlock ?_
      | (refine Run.region ?_; simp only [List.size_toArray, List.length_cons, List.length_nil, Nat.reduceAdd, Nat.zero_add, List.range, List.range.loop])
      | (refine Run.cond rfl ?_; simp only [if_true, if_false, Bool.false_eq_true, ↓reduceIte])
      | (refine Run.unwanted rfl rfl ?_; walk_nrm)
      | (refine Run.op0 rfl rfl (by k_ne) (fun d K hK => by go_simp; exact hK) (fun d => by first | (simp [go_sem, *] <;> fail) | fail) ?_; try w_num)
      | refine Run.ret ?_
      | refine Run.fin ?_
      | refine Run.exit rfl ?_
    first | rw [ew] | skip
    refine Run.inLoop ?_
    exact ih.out _ _ _ _ _ _ _ _ _ _ _ _ _ _ _ _ _ _ _ _ _ _ _ _ _ _ _ _ _ _ _ _ _ _ _ _ _ _ _ _ _ _ _ _ _ _ _ _ _ _ _ _ _ _ _ _ _ _ _ _ _ _ _ _ _ _ _ _ _ _ _ _ _ _ _ _ _ _ _ _ _ _ _ _ _ _ _ _ _ _ _ _ _ _
set_option maxRecDepth 100000 in
set_option maxHeartbeats 8000000 in
theorem add_loop (xs : List (Int × Int)) {sl : Option Addr} {cap : Nat} {n : Int} (hlen : xs.length ≤ 4096) (hbad : xs.any bad = false) {A B C : Nat} {v8 : Value} {X : Cx} (hC : X.free C) (hrd : X.reads sl) (hna : ∀ ar off, sl = some ⟨ar, off, none⟩ → ar ≠ C) {K : List Item} : ∀ (m k : Nat), k + m = xs.length → ∀ (w : World),
    StepsAt sl xs w → TlAt C (cTl ((nats xs).take k)) w →
    (∀ (w' : World) (y2 y3 y9 y13 y14 y15 y16 y17 y18 y19 y20 y21 y22 y23 y24 y25 y26 y27 y28 y29 y30 y31 y32 y33 y34 y35 y36 y37 y38 y39 y40 y41 y42 y43 y44 y45 y46 y47 y48 y49 y50 y51 y52 y53 y54 y55 y56 y57 y58 y59 y60 y61 y62 y63 y64 y65 y66 y67 y68 y69 y70 y71 y72 y73 y74 y75 y76 y77 y78 y79 y80 y81 y82 y83 y84 y85 y86 y87 y88 y89 y90 y91 y92 y93 y94 y95 y96 y97 y98 y99 y100 y101 : Value), TlAt C (cTl (nats xs)) w' → Aside C w w' → Run Try.prog X (G ((base 4).at ⟨#[.slice sl xs.length cap, .int .i64 n, y2, y3, .bool false, .pointer (some ⟨A, 0, none⟩), .pointer (some ⟨B, 0, none⟩), .pointer (some ⟨C, 0, none⟩), v8, y9, .int .i64 0, .int .i64 0, .int .i64 (xs.length : Int), y13, y14, y15, y16, y17, y18, y19, y20, y21, y22, y23, y24, y25, y26, y27, y28, y29, y30, y31, y32, y33, y34, y35, y36, y37, y38, y39, y40, y41, y42, y43, y44, y45, y46, y47, y48, y49, y50, y51, y52, y53, y54, y55, y56, y57, y58, y59, y60, y61, y62, y63, y64, y65, y66, y67, y68, y69, y70, y71, y72, y73, y74, y75, y76, y77, y78, y79, y80, y81, y82, y83, y84, y85, y86, y87, y88, y89, y90, y91, y92, y93, y94, y95, y96, y97, y98, y99, y100, y101], []⟩ K) []) w') → ∀ (y2 y3 y9 y13 y14 y15 y16 y17 y18 y19 y20 y21 y22 y23 y24 y25 y26 y27 y28 y29 y30 y31 y32 y33 y34 y35 y36 y37 y38 y39 y40 y41 y42 y43 y44 y45 y46 y47 y48 y49 y50 y51 y52 y53 y54 y55 y56 y57 y58 y59 y60 y61 y62 y63 y64 y65 y66 y67 y68 y69 y70 y71 y72 y73 y74 y75 y76 y77 y78 y79 y80 y81 y82 y83 y84 y85 y86 y87 y88 y89 y90 y91 y92 y93 y94 y95 y96 y97 y98 y99 y100 y101 : Value),
    Run Try.prog X (G ((base 4).at ⟨#[.slice sl xs.length cap, .int .i64 n, y2, y3, .bool false, .pointer (some ⟨A, 0, none⟩), .pointer (some ⟨B, 0, none⟩), .pointer (some ⟨C, 0, none⟩), v8, y9, .int .i64 0, .int .i64 0, .int .i64 (k : Int), y13, y14, y15, y16, y17, y18, y19, y20, y21, y22, y23, y24, y25, y26, y27, y28, y29, y30, y31, y32, y33, y34, y35, y36, y37, y38, y39, y40, y41, y42, y43, y44, y45, y46, y47, y48, y49, y50, y51, y52, y53, y54, y55, y56, y57, y58, y59, y60, y61, y62, y63, y64, y65, y66, y67, y68, y69, y70, y71, y72, y73, y74, y75, y76, y77, y78, y79, y80, y81, y82, y83, y84, y85, y86, y87, y88, y89, y90, y91, y92, y93, y94, y95, y96, y97, y98, y99, y100, y101], []⟩ (.code lp2 :: .inLoop lp2 :: .inBlock 2 :: K)) []) w := by
  intro m
  induction m with
  | zero =>
    intro k hk w hst ht hK y2 y3 y9 y13 y14 y15 y16 y17 y18 y19 y20 y21 y22 y23 y24 y25 y26 y27 y28 y29 y30 y31 y32 y33 y34 y35 y36 y37 y38 y39 y40 y41 y42 y43 y44 y45 y46 y47 y48 y49 y50 y51 y52 y53 y54 y55 y56 y57 y58 y59 y60 y61 y62 y63 y64 y65 y66 y67 y68 y69 y70 y71 y72 y73 y74 y75 y76 y77 y78 y79 y80 y81 y82 y83 y84 y85 y86 y87 y88 y89 y90 y91 y92 y93 y94 y95 y96 y97 y98 y99 y100 y101
    have hlt : decide ((k : Int) < (xs.length : Int)) = false := decide_eq_false (by omega)
    have hlt' : decide (k < xs.length) = false := decide_eq_false (by omega)
    rw [List.take_of_length_le (show (nats xs).length ≤ k by rw [nats_len]; omega)] at ht
    replace hK := Lib.hid (fun y2 y3 y9 y13 y14 y15 y16 y17 y18 y19 y20 y21 y22 y23 y24 y25 y26 y27 y28 y29 y30 y31 y32 y33 y34 y35 y36 y37 y38 y39 y40 y41 y42 y43 y44 y45 y46 y47 y48 y49 y50 y51 y52 y53 y54 y55 y56 y57 y58 y59 y60 y61 y62 y63 y64 y65 y66 y67 y68 y69 y70 y71 y72 y73 y74 y75 y76 y77 y78 y79 y80 y81 y82 y83 y84 y85 y86 y87 y88 y89 y90 y91 y92 y93 y94 y95 y96 y97 y98 y99 y100 y101 => hK w y2 y3 y9 y13 y14 y15 y16 y17 y18 y19 y20 y21 y22 y23 y24 y25 y26 y27 y28 y29 y30 y31 y32 y33 y34 y35 y36 y37 y38 y39 y40 y41 y42 y43 y44 y45 y46 y47 y48 y49 y50 y51 y52 y53 y54 y55 y56 y57 y58 y59 y60 y61 y62 y63 y64 y65 y66 y67 y68 y69 y70 y71 y72 y73 y74 y75 y76 y77 y78 y79 y80 y81 y82 y83 y84 y85 y86 y87 y88 y89 y90 y91 y92 y93 y94 y95 y96 y97 y98 y99 y100 y101 ht (Aside.refl C w))
    obtain rfl : xs.length = k := by omega
    simp only [lp2, loops, Try.f4, Option.getD_some, List.nil_append, List.append_nil, List.cons_append, List.getD_cons_zero, List.getD_cons_succ]
    clear hst ht
    repeat first
      | refine Run.seq ?_
      | refine Run.skip ?_
      | refine Run.regionEnd ?_
      | refine Run.block ?_
      | refine Run.inBlock ?_
      | (refine Run.region ?_; simp only [List.size_toArray, List.length_cons, List.length_nil, Nat.reduceAdd, Nat.zero_add, List.range, List.range.loop])
      | (refine Run.cond rfl ?_; simp only [if_true, if_false, Bool.false_eq_true, ↓reduceIte])
      | (refine Run.unwanted rfl rfl ?_; walk_nrm)
      | (refine Run.op0 rfl rfl (by k_ne) (fun d K hK => by go_simp; exact hK) (fun d => by first | (simp [go_sem, *] <;> fail) | fail) ?_; try w_num)
      | refine Run.ret ?_
      | refine Run.fin ?_
      | refine Run.exit rfl ?_
    exact hK.out _ _ _ _ _ _ _ _ _ _ _ _ _ _ _ _ _ _ _ _ _ _ _ _ _ _ _ _ _ _ _ _ _ _ _ _ _ _ _ _ _ _ _ _ _ _ _ _ _ _ _ _ _ _ _ _ _ _ _ _ _ _ _ _ _ _ _ _ _ _ _ _ _ _ _ _ _ _ _ _ _ _ _ _ _ _ _ _ _ _ _ _
  | succ m ih =>
    intro k hk w hst ht hK y2 y3 y9 y13 y14 y15 y16 y17 y18 y19 y20 y21 y22 y23 y24 y25 y26 y27 y28 y29 y30 y31 y32 y33 y34 y35 y36 y37 y38 y39 y40 y41 y42 y43 y44 y45 y46 y47 y48 y49 y50 y51 y52 y53 y54 y55 y56 y57 y58 y59 y60 y61 y62 y63 y64 y65 y66 y67 y68 y69 y70 y71 y72 y73 y74 y75 y76 y77 y78 y79 y80 y81 y82 y83 y84 y85 y86 y87 y88 y89 y90 y91 y92 y93 y94 y95 y96 y97 y98 y99 y100 y101
    have hkN : k < xs.length := by omega
    have hlt : decide ((k : Int) < (xs.length : Int)) = true := decide_eq_true (by omega)
    have hlt' : decide (k < xs.length) = true := decide_eq_true hkN
    have hki : (k : Int) < (xs.length : Int) := by omega
    have ew : IntKind.i64.wrap ((k : Int) + 1) = ((k + 1 : Nat) : Int) := by rw [IntKind.wrap_i64]; omega
    have hst' := hst
    obtain ⟨ar, off, rfl, har, hcs⟩ := hst' (by intro e; subst e; simp at hkN)
    obtain ⟨ck, dk⟩ := hcs k hkN
    have hAr : X.free ar := hrd ar off rfl
    have hkn : k < (nats xs).length := by rw [nats_len]; exact hkN
    obtain ⟨g1, g2, g3⟩ := nats_get hbad hkn hkN
    have hbk : okStep (xs[k]).1 (xs[k]).2 = true := by
      have := List.any_eq_false.1 hbad _ (List.getElem_mem hkN)
      simpa [bad] using this
    have hAd := add_yes (X := X) hC.1 ht g3 (d := (xs[k]).2) (by rw [g1]; exact hbk)
    rw [cTl_snoc, g1, ← g2, show (((nats xs)[k]).1, ((nats xs)[k]).2) = (nats xs)[k] from rfl, List.take_append_getElem hkn, g2] at hAd
    replace hK := Lib.hid hK
    replace ih := Lib.hid (fun (w' : World) => ih (k + 1) (by omega) w')
    have hna' := hna ar off rfl
    clear g1 g2 g3 ht hbk hcs
    simp only [lp2, loops, Try.f4, Option.getD_some, List.nil_append, List.append_nil, List.cons_append, List.getD_cons_zero, List.getD_cons_succ] at ih ⊢
    repeat first
      | refine Run.seq ?_
      | refine Run.skip ?_
      | refine Run.regionEnd ?_
      | refine Run.block ?_
      | refine Run.inBlock ?_
      | (refine Run.region ?_; simp only [List.size_toArray, List.length_cons, List.length_nil, Nat.reduceAdd, Nat.zero_add, List.range, List.range.loop])
      | (refine Run.cond rfl ?_; simp only [if_true, if_false, Bool.false_eq_true, ↓reduceIte])
      | (refine Run.unwanted rfl rfl ?_; walk_nrm)
      | (refine Run.op0 rfl rfl (by k_ne) (fun d K hK => by go_simp; exact hK) (fun d => by first | (simp [go_sem, *] <;> fail) | fail) ?_; try w_num)
      | refine Run.ret ?_
      | refine Run.fin ?_
      | refine Run.exit rfl ?_
    refine Run.draw (by k_ne) rfl (fun a' w' => TlAt C (cTl ((nats xs).take (k + 1))) w' ∧ Aside C w w' ∧ ∃ (y2 y3 y9 y13 y14 y15 y16 y17 y18 y19 y20 y21 y22 y23 y24 y25 y26 y27 y28 y29 y30 y31 y32 y33 y34 y35 y36 y37 y38 y39 y40 y41 y42 y43 y44 y45 y46 y47 y48 y49 y50 y51 y52 y53 y54 y55 y56 y57 y58 y59 y60 y61 y62 y63 y64 y65 y66 y67 y68 y70 y71 y72 y73 y74 y75 y76 y77 y78 y79 y80 y81 y82 y83 y84 y85 y86 y87 y88 y89 y90 y91 y92 y93 y94 y95 y96 y97 y98 y99 y100 y101 : Value), a' = ⟨#[.slice (some ⟨ar, off, none⟩) xs.length cap, .int .i64 n, y2, y3, .bool false, .pointer (some ⟨A, 0, none⟩), .pointer (some ⟨B, 0, none⟩), .pointer (some ⟨C, 0, none⟩), v8, y9, .int .i64 0, .int .i64 0, .int .i64 (k : Int), y13, y14, y15, y16, y17, y18, y19, y20, y21, y22, y23, y24, y25, y26, y27, y28, y29, y30, y31, y32, y33, y34, y35, y36, y37, y38, y39, y40, y41, y42, y43, y44, y45, y46, y47, y48, y49, y50, y51, y52, y53, y54, y55, y56, y57, y58, y59, y60, y61, y62, y63, y64, y65, y66, y67, y68, .bool false, y70, y71, y72, y73, y74, y75, y76, y77, y78, y79, y80, y81, y82, y83, y84, y85, y86, y87, y88, y89, y90, y91, y92, y93, y94, y95, y96, y97, y98, y99, y100, y101], []⟩) (fun w' => w'.cell? ⟨ar, off + k * 2, none⟩ = some (.int .i64 (xs[k]).1) ∧ w'.cell? ⟨ar, off + k * 2 + 1, none⟩ = some (.int .i64 (xs[k]).2)) ?_ (fun a' w' hq => ?_)
    · simp only [List.size_toArray, List.length_cons, List.length_nil, Nat.reduceAdd, Nat.zero_add]
      refine anyR_take (i' := 0) rfl (by kernel_rfl) (by kernel_rfl) (by kernel_rfl) (by kernel_rfl) (fun w' hS => by
        obtain ⟨k1, k2⟩ := hS
        exact .inl ⟨rfl, fun d => ⟨by go_simp; rfl, fun e he => by simp [go_sem, *] at he⟩⟩) ?_
      walk_nrm
      refine anyR_take (i' := 1) rfl (by kernel_rfl) (by kernel_rfl) (by kernel_rfl) (by kernel_rfl) (fun w' hS => by
        obtain ⟨k1, k2⟩ := hS
        exact .inl ⟨rfl, fun d => ⟨by go_simp; rfl, fun e he => by simp [go_sem, *] at he⟩⟩) ?_
      walk_nrm
      refine anyR_take (i' := 2) rfl (by kernel_rfl) (by kernel_rfl) (by kernel_rfl) (by kernel_rfl) (fun w' hS => by
        obtain ⟨k1, k2⟩ := hS
        exact .inl ⟨rfl, fun d => ⟨by go_simp; rfl, fun e he => by simp [go_sem, *] at he⟩⟩) ?_
      walk_nrm
      refine anyR_take (i' := 3) rfl (by kernel_rfl) (by kernel_rfl) (by kernel_rfl) (by kernel_rfl) (fun w' hS => by
        obtain ⟨k1, k2⟩ := hS
        exact .inl ⟨rfl, fun d => ⟨by go_simp; rfl, fun e he => by simp [go_sem, *] at he⟩⟩) ?_
      walk_nrm
      refine anyR_take (i' := 4) rfl (by kernel_rfl) (by kernel_rfl) (by kernel_rfl) (by kernel_rfl) (fun w' hS => by
        obtain ⟨k1, k2⟩ := hS
        exact .inl ⟨rfl, fun d => ⟨by go_simp; rfl, fun e he => by simp [go_sem, *] at he⟩⟩) ?_
      walk_nrm
      refine anyR_take (i' := 5) rfl (by kernel_rfl) (by kernel_rfl) (by kernel_rfl) (by kernel_rfl) (fun w' hS => by
        obtain ⟨k1, k2⟩ := hS
        exact .inl ⟨rfl, fun d => ⟨by go_simp; rfl, fun e he => by simp [go_sem, *] at he; subst he; exact evL_free hAr⟩⟩) ?_
      walk_nrm
      refine anyR_take (i' := 6) rfl (by kernel_rfl) (by kernel_rfl) (by kernel_rfl) (by kernel_rfl) (fun w' hS => by
        obtain ⟨k1, k2⟩ := hS
        exact .inl ⟨rfl, fun d => ⟨by go_simp; rfl, fun e he => by simp [go_sem, *] at he⟩⟩) ?_
      walk_nrm
      refine anyR_take (i' := 7) rfl (by kernel_rfl) (by kernel_rfl) (by kernel_rfl) (by kernel_rfl) (fun w' hS => by
        obtain ⟨k1, k2⟩ := hS
        exact .inl ⟨rfl, fun d => ⟨by go_simp; rfl, fun e he => by simp [go_sem, *] at he⟩⟩) ?_
      walk_nrm
      refine anyR_take (i' := 8) rfl (by kernel_rfl) (by kernel_rfl) (by kernel_rfl) (by kernel_rfl) (fun w' hS => by
        obtain ⟨k1, k2⟩ := hS
        exact .inl ⟨rfl, fun d => ⟨by go_simp; rfl, fun e he => by simp [go_sem, *] at he⟩⟩) ?_
      walk_nrm
      refine anyR_take (i' := 9) rfl (by kernel_rfl) (by kernel_rfl) (by kernel_rfl) (by kernel_rfl) (fun w' hS => by
        obtain ⟨k1, k2⟩ := hS
        exact .inl ⟨rfl, fun d => ⟨by go_simp; rfl, fun e he => by simp [go_sem, *] at he⟩⟩) ?_
      walk_nrm
      refine anyR_take (i' := 10) rfl (by kernel_rfl) (by kernel_rfl) (by kernel_rfl) (by kernel_rfl) (fun w' hS => by
        obtain ⟨k1, k2⟩ := hS
        exact .inl ⟨rfl, fun d => ⟨by go_simp; rfl, fun e he => by simp [go_sem, *] at he; subst he; exact evL_free hAr⟩⟩) ?_
      walk_nrm
      refine anyR_call (j := 11) hAd rfl (by kernel_rfl) (by kernel_rfl) ⟨ck, dk⟩ rfl rfl (by first | (simp only [List.map_toArray, List.map_cons, List.map_nil]; done) | (simp only [List.map_toArray, List.map_cons, List.map_nil]; rfl)) (fun X' v w' hr => ?_)
      obtain ⟨rfl, rfl, ht2, a2⟩ := hr
      refine ⟨rfl, ?_⟩
      walk_nrm
      have ck2 := (cell_heap (a2.block ar hna')).trans ck
      have dk2 := (cell_heap (a2.block ar hna')).trans dk
      refine anyR_take (i' := 12) rfl (by kernel_rfl) (by kernel_rfl) (by kernel_rfl) (by kernel_rfl) (fun w2 hS => .inl ⟨rfl, fun d => ⟨by go_simp; rfl, fun e he => by simp [go_sem, *] at he⟩⟩) ?_
      walk_nrm
      exact anyR_done (by kernel_rfl) ⟨ck2, dk2⟩ ⟨ht2, a2, _, _, _, _, _, _, _, _, _, _, _, _, _, _, _, _, _, _, _, _, _, _, _, _, _, _, _, _, _, _, _, _, _, _, _, _, _, _, _, _, _, _, _, _, _, _, _, _, _, _, _, _, _, _, _, _, _, _, _, _, _, _, _, _, _, _, _, _, _, _, _, _, _, _, _, _, _, _, _, _, _, _, _, _, _, _, _, _, _, _, _, rfl⟩
    · obtain ⟨ht2, a2, z2, z3, z9, z13, z14, z15, z16, z17, z18, z19, z20, z21, z22, z23, z24, z25, z26, z27, z28, z29, z30, z31, z32, z33, z34, z35, z36, z37, z38, z39, z40, z41, z42, z43, z44, z45, z46, z47, z48, z49, z50, z51, z52, z53, z54, z55, z56, z57, z58, z59, z60, z61, z62, z63, z64, z65, z66, z67, z68, z70, z71, z72, z73, z74, z75, z76, z77, z78, z79, z80, z81, z82, z83, z84, z85, z86, z87, z88, z89, z90, z91, z92, z93, z94, z95, z96, z97, z98, z99, z100, z101, rfl⟩ := hq
      have hst2 : StepsAt (some ⟨ar, off, none⟩) xs w' := hst.keep (by rw [a2.size]; exact Nat.le_refl _) (fun ar' off' e => by cases e; exact a2.block ar hna')
      replace ih := Lib.hid (ih.out w' hst2 ht2 (fun w2 y2 y3 y9 y13 y14 y15 y16 y17 y18 y19 y20 y21 y22 y23 y24 y25 y26 y27 y28 y29 y30 y31 y32 y33 y34 y35 y36 y37 y38 y39 y40 y41 y42 y43 y44 y45 y46 y47 y48 y49 y50 y51 y52 y53 y54 y55 y56 y57 y58 y59 y60 y61 y62 y63 y64 y65 y66 y67 y68 y69 y70 y71 y72 y73 y74 y75 y76 y77 y78 y79 y80 y81 y82 y83 y84 y85 y86 y87 y88 y89 y90 y91 y92 y93 y94 y95 y96 y97 y98 y99 y100 y101 h2 k2 => hK.out w2 y2 y3 y9 y13 y14 y15 y16 y17 y18 y19 y20 y21 y22 y23 y24 y25 y26 y27 y28 y29 y30 y31 y32 y33 y34 y35 y36 y37 y38 y39 y40 y41 y42 y43 y44 y45 y46 y47 y48 y49 y50 y51 y52 y53 y54 y55 y56 y57 y58 y59 y60 y61 y62 y63 y64 y65 y66 y67 y68 y69 y70 y71 y72 y73 y74 y75 y76 y77 y78 y79 y80 y81 y82 y83 y84 y85 y86 y87 y88 y89 y90 y91 y92 y93 y94 y95 y96 y97 y98 y99 y100 y101 h2 (aside_trans a2 k2)))
      clear hK hAd hst2 ht2 ck dk a2 hst
      repeat first
        | refine Run.seq ?_
        | refine Run.skip ?_
        | refine Run.regionEnd ?_
        | refine Run.block ?_
        | refine Run.inBlock ?_
        | (refine Run.region ?_; simp only [List.size_toArray, List.length_cons, List.length_nil, Nat.reduceAdd, Nat.zero_add, List.range, List.range.loop])
        | (refine Run.cond rfl ?_; simp only [if_true, if_false, Bool.false_eq_true, ↓reduceIte])
        | (refine Run.unwanted rfl rfl ?_; walk_nrm)
        | (refine Run.op0 rfl rfl (by k_ne) (fun d K hK => by go_simp; exact hK) (fun d => by first | (simp [go_sem, *] <;> fail) | fail) ?_; try w_num)
        | refine Run.ret ?_
        | refine Run.fin ?_
        | refine Run.exit rfl ?_
      first | rw [ew] | rw [show (k : Int) + 1 = ((k + 1 : Nat) : Int) by omega]
      refine Run.inLoop ?_
      exact ih.out _ _ _ _ _ _ _ _ _ _ _ _ _ _ _ _ _ _ _ _ _ _ _ _ _ _ _ _ _ _ _ _ _ _ _ _ _ _ _ _ _ _ _ _ _ _ _ _ _ _ _ _ _ _ _ _ _ _ _ _ _ _ _ _ _ _ _ _ _ _ _ _ _ _ _ _ _ _ _ _ _ _ _ _ _ _ _ _ _ _ _ _
set_option maxRecDepth 100000 in
set_option maxHeartbeats 8000000 in
theorem cmp_loop {xs : List (Int × Int)} {sl : Option Addr} {cap : Nat} {n ec : Int} {A B C : Nat} {v8 : Value} {X : Cx} {w : World} {x y z : Tl} (hA : A < X.B) (hB : B < X.B) (hC : C < X.B) (tA : TlAt A x w) (tB : TlAt B y w) (tC : TlAt C z w) (hxz : ∀ c, x.cs c = z.cs c) (hyz : ∀ c, y.cs c = z.cs c) {K : List Item}
    (hK : ∀ (y2 y3 y9 y12 y14 y15 y16 y17 y18 y19 y20 y21 y22 y23 y24 y25 y26 y27 y28 y29 y30 y31 y32 y33 y34 y35 y36 y37 y38 y39 y40 y41 y42 y43 y44 y45 y46 y47 y48 y49 y50 y51 y52 y53 y54 y55 y56 y57 y58 y59 y60 y61 y62 y63 y64 y65 y66 y67 y68 y69 y70 y71 y72 y73 y74 y75 y76 y77 y78 y79 y80 y81 y82 y83 y84 y85 y86 y87 y88 y89 y90 y91 y92 y93 y94 y95 y96 y97 y98 y99 y100 y101 : Value), Run Try.prog X (G ((base 4).at ⟨#[.slice sl xs.length cap, .int .i64 n, y2, y3, .bool false, .pointer (some ⟨A, 0, none⟩), .pointer (some ⟨B, 0, none⟩), .pointer (some ⟨C, 0, none⟩), v8, y9, .int .i64 ec, .int .i64 ec, y12, .int .i64 8, y14, y15, y16, y17, y18, y19, y20, y21, y22, y23, y24, y25, y26, y27, y28, y29, y30, y31, y32, y33, y34, y35, y36, y37, y38, y39, y40, y41, y42, y43, y44, y45, y46, y47, y48, y49, y50, y51, y52, y53, y54, y55, y56, y57, y58, y59, y60, y61, y62, y63, y64, y65, y66, y67, y68, y69, y70, y71, y72, y73, y74, y75, y76, y77, y78, y79, y80, y81, y82, y83, y84, y85, y86, y87, y88, y89, y90, y91, y92, y93, y94, y95, y96, y97, y98, y99, y100, y101], []⟩ K) []) w) : ∀ (m k : Nat), k + m = 8 → ∀ (y2 y3 y9 y12 y14 y15 y16 y17 y18 y19 y20 y21 y22 y23 y24 y25 y26 y27 y28 y29 y30 y31 y32 y33 y34 y35 y36 y37 y38 y39 y40 y41 y42 y43 y44 y45 y46 y47 y48 y49 y50 y51 y52 y53 y54 y55 y56 y57 y58 y59 y60 y61 y62 y63 y64 y65 y66 y67 y68 y69 y70 y71 y72 y73 y74 y75 y76 y77 y78 y79 y80 y81 y82 y83 y84 y85 y86 y87 y88 y89 y90 y91 y92 y93 y94 y95 y96 y97 y98 y99 y100 y101 : Value),
    Run Try.prog X (G ((base 4).at ⟨#[.slice sl xs.length cap, .int .i64 n, y2, y3, .bool false, .pointer (some ⟨A, 0, none⟩), .pointer (some ⟨B, 0, none⟩), .pointer (some ⟨C, 0, none⟩), v8, y9, .int .i64 ec, .int .i64 ec, y12, .int .i64 (k : Int), y14, y15, y16, y17, y18, y19, y20, y21, y22, y23, y24, y25, y26, y27, y28, y29, y30, y31, y32, y33, y34, y35, y36, y37, y38, y39, y40, y41, y42, y43, y44, y45, y46, y47, y48, y49, y50, y51, y52, y53, y54, y55, y56, y57, y58, y59, y60, y61, y62, y63, y64, y65, y66, y67, y68, y69, y70, y71, y72, y73, y74, y75, y76, y77, y78, y79, y80, y81, y82, y83, y84, y85, y86, y87, y88, y89, y90, y91, y92, y93, y94, y95, y96, y97, y98, y99, y100, y101], []⟩ (.code lp3 :: .inLoop lp3 :: .inBlock 4 :: K)) []) w := by
  replace hK := Lib.hid hK
  intro m
  induction m with
  | zero =>
    intro k hk y2 y3 y9 y12 y14 y15 y16 y17 y18 y19 y20 y21 y22 y23 y24 y25 y26 y27 y28 y29 y30 y31 y32 y33 y34 y35 y36 y37 y38 y39 y40 y41 y42 y43 y44 y45 y46 y47 y48 y49 y50 y51 y52 y53 y54 y55 y56 y57 y58 y59 y60 y61 y62 y63 y64 y65 y66 y67 y68 y69 y70 y71 y72 y73 y74 y75 y76 y77 y78 y79 y80 y81 y82 y83 y84 y85 y86 y87 y88 y89 y90 y91 y92 y93 y94 y95 y96 y97 y98 y99 y100 y101
    obtain rfl : k = 8 := by omega
    simp only [lp3, loops, Try.f4, Option.getD_some, List.nil_append, List.append_nil, List.cons_append, List.getD_cons_zero, List.getD_cons_succ]
    clear tA tB tC hxz hyz
    repeat first
      | refine Run.seq ?_
      | refine Run.skip ?_
      | refine Run.regionEnd ?_
      | refine Run.block ?_
      | refine Run.inBlock ?_
      | (refine Run.region ?_; simp only [List.size_toArray, List.length_cons, List.length_nil, Nat.reduceAdd, Nat.zero_add, List.range, List.range.loop])
      | (refine Run.cond rfl ?_; simp only [if_true, if_false, Bool.false_eq_true, ↓reduceIte])
      | (refine Run.unwanted rfl rfl ?_; walk_nrm)
      | (refine Run.op0 rfl rfl (by k_ne) (fun d K hK => by go_simp; exact hK) (fun d => by first | (simp [go_sem, *] <;> fail) | fail) ?_; try w_num)
      | refine Run.ret ?_
      | refine Run.fin ?_
      | refine Run.exit rfl ?_
    exact hK.out _ _ _ _ _ _ _ _ _ _ _ _ _ _ _ _ _ _ _ _ _ _ _ _ _ _ _ _ _ _ _ _ _ _ _ _ _ _ _ _ _ _ _ _ _ _ _ _ _ _ _ _ _ _ _ _ _ _ _ _ _ _ _ _ _ _ _ _ _ _ _ _ _ _ _ _ _ _ _ _ _ _ _ _ _ _ _ _ _ _ _ _
  | succ m ih =>
    intro k hk y2 y3 y9 y12 y14 y15 y16 y17 y18 y19 y20 y21 y22 y23 y24 y25 y26 y27 y28 y29 y30 y31 y32 y33 y34 y35 y36 y37 y38 y39 y40 y41 y42 y43 y44 y45 y46 y47 y48 y49 y50 y51 y52 y53 y54 y55 y56 y57 y58 y59 y60 y61 y62 y63 y64 y65 y66 y67 y68 y69 y70 y71 y72 y73 y74 y75 y76 y77 y78 y79 y80 y81 y82 y83 y84 y85 y86 y87 y88 y89 y90 y91 y92 y93 y94 y95 y96 y97 y98 y99 y100 y101
    have hkN : k < 8 := by omega
    have hlt : decide ((k : Int) < 8) = true := decide_eq_true (by omega)
    have ew : IntKind.i64.wrap ((k : Int) + 1) = ((k + 1 : Nat) : Int) := by rw [IntKind.wrap_i64]; omega
    have hGA := get_mid hA tA hkN
    have hGB := get_mid hB tB hkN
    have hGC := get_mid hC tC hkN
    rw [hxz] at hGA
    rw [hyz] at hGB
    generalize z.cs k = Z at hGA hGB hGC
    replace ih := Lib.hid (ih (k + 1) (by omega))
    simp only [lp3, loops, Try.f4, Option.getD_some, List.nil_append, List.append_nil, List.cons_append, List.getD_cons_zero, List.getD_cons_succ] at ih ⊢
    clear tA tB tC hxz hyz
    repeat first
      | refine Run.seq ?_
      | refine Run.skip ?_
      | refine Run.regionEnd ?_
      | refine Run.block ?_
      | refine Run.inBlock ?_
      | (refine Run.region ?_; simp only [List.size_toArray, List.length_cons, List.length_nil, Nat.reduceAdd, Nat.zero_add, List.range, List.range.loop])
      | (refine Run.cond rfl ?_; simp only [if_true, if_false, Bool.false_eq_true, ↓reduceIte])
      | (refine Run.unwanted rfl rfl ?_; walk_nrm)
      | (refine Run.op0 rfl rfl (by k_ne) (fun d K hK => by go_simp; exact hK) (fun d => by first | (simp [go_sem, *] <;> fail) | fail) ?_; try w_num)
      | refine Run.ret ?_
      | refine Run.fin ?_
      | refine Run.exit rfl ?_
    refine Run.con hGA rfl rfl (by k_ne) rfl (by first | (simp only [List.map_toArray, List.map_cons, List.map_nil]; done) | (simp only [List.map_toArray, List.map_cons, List.map_nil]; rfl)) (fun X1 v w1 hr => ?_)
    obtain ⟨rfl, rfl, rfl⟩ := hr
    walk_nrm
    repeat first
      | refine Run.seq ?_
      | refine Run.skip ?_
      | refine Run.regionEnd ?_
      | refine Run.block ?_
      | refine Run.inBlock ?_
      | (refine Run.region ?_; simp only [List.size_toArray, List.length_cons, List.length_nil, Nat.reduceAdd, Nat.zero_add, List.range, List.range.loop])
      | (refine Run.cond rfl ?_; simp only [if_true, if_false, Bool.false_eq_true, ↓reduceIte])
      | (refine Run.unwanted rfl rfl ?_; walk_nrm)
      | (refine Run.op0 rfl rfl (by k_ne) (fun d K hK => by go_simp; exact hK) (fun d => by first | (simp [go_sem, *] <;> fail) | fail) ?_; try w_num)
      | refine Run.ret ?_
      | refine Run.fin ?_
      | refine Run.exit rfl ?_
    refine Run.con hGC rfl rfl (by k_ne) rfl (by first | (simp only [List.map_toArray, List.map_cons, List.map_nil]; done) | (simp only [List.map_toArray, List.map_cons, List.map_nil]; rfl)) (fun X1 v w1 hr => ?_)
    obtain ⟨rfl, rfl, rfl⟩ := hr
    walk_nrm
    repeat first
      | refine Run.seq ?_
      | refine Run.skip ?_
      | refine Run.regionEnd ?_
      | refine Run.block ?_
      | refine Run.inBlock ?_
      | (refine Run.region ?_; simp only [List.size_toArray, List.length_cons, List.length_nil, Nat.reduceAdd, Nat.zero_add, List.range, List.range.loop])
      | (refine Run.cond rfl ?_; simp only [if_true, if_false, Bool.false_eq_true, ↓reduceIte])
      | (refine Run.unwanted rfl rfl ?_; walk_nrm)
      | (refine Run.op0 rfl rfl (by k_ne) (fun d K hK => by go_simp; exact hK) (fun d => by first | (simp [go_sem, *] <;> fail) | fail) ?_; try w_num)
      | refine Run.ret ?_
      | refine Run.fin ?_
      | refine Run.exit rfl ?_
    refine Run.con hGB rfl rfl (by k_ne) rfl (by first | (simp only [List.map_toArray, List.map_cons, List.map_nil]; done) | (simp only [List.map_toArray, List.map_cons, List.map_nil]; rfl)) (fun X1 v w1 hr => ?_)
    obtain ⟨rfl, rfl, rfl⟩ := hr
    walk_nrm
    repeat first
      | refine Run.seq ?_
      | refine Run.skip ?_
      | refine Run.regionEnd ?_
      | refine Run.block ?_
      | refine Run.inBlock ?_
      | (refine Run.region ?_; simp only [List.size_toArray, List.length_cons, List.length_nil, Nat.reduceAdd, Nat.zero_add, List.range, List.range.loop])
      | (refine Run.cond rfl ?_; simp only [if_true, if_false, Bool.false_eq_true, ↓reduceIte])
      | (refine Run.unwanted rfl rfl ?_; walk_nrm)
      | (refine Run.op0 rfl rfl (by k_ne) (fun d K hK => by go_simp; exact hK) (fun d => by first | (simp [go_sem, *] <;> fail) | fail) ?_; try w_num)
      | refine Run.ret ?_
      | refine Run.fin ?_
      | refine Run.exit rfl ?_
    refine Run.con hGC rfl rfl (by k_ne) rfl (by first | (simp only [List.map_toArray, List.map_cons, List.map_nil]; done) | (simp only [List.map_toArray, List.map_cons, List.map_nil]; rfl)) (fun X1 v w1 hr => ?_)
    obtain ⟨rfl, rfl, rfl⟩ := hr
    walk_nrm
    repeat first
      | refine Run.seq ?_
      | refine Run.skip ?_
      | refine Run.regionEnd ?_
      | refine Run.block ?_
      | refine Run.inBlock ?_
      | (refine Run.region ?_; simp only [List.size_toArray, List.length_cons, List.length_nil, Nat.reduceAdd, Nat.zero_add, List.range, List.range.loop])
      | (refine Run.cond rfl ?_; simp only [if_true, if_false, Bool.false_eq_true, ↓reduceIte])
      | (refine Run.unwanted rfl rfl ?_; walk_nrm)
      | (refine Run.op0 rfl rfl (by k_ne) (fun d K hK => by go_simp; exact hK) (fun d => by first | (simp [go_sem, *] <;> fail) | fail) ?_; try w_num)
      | refine Run.ret ?_
      | refine Run.fin ?_
      | refine Run.exit rfl ?_
    first | rw [ew] | rw [show (k : Int) + 1 = ((k + 1 : Nat) : Int) by omega]
    refine Run.inLoop ?_
    exact ih.out _ _ _ _ _ _ _ _ _ _ _ _ _ _ _ _ _ _ _ _ _ _ _ _ _ _ _ _ _ _ _ _ _ _ _ _ _ _ _ _ _ _ _ _ _ _ _ _ _ _ _ _ _ _ _ _ _ _ _ _ _ _ _ _ _ _ _ _ _ _ _ _ _ _ _ _ _ _ _ _ _ _ _ _ _ _ _ _ _ _ _ _
end Go.Proofs.Ytboiolnnhmlieaa.Gang
