
/-
  TallySpread: its walk.
  Conditions: stated lemma by lemma.
-/
import Derived.Test.YtboiolnnhmlieaaGc27
namespace Go.Proofs.Ytboiolnnhmlieaa.Gang
open Go.Conc Go.ConcN Go.RowKit Go.Conc.Lib Go.ConcR.Gen Go.ConcN.Gen
set_option linter.unusedVariables false
set_option linter.unusedSimpArgs false
set_option maxRecDepth 100000 in
set_option maxHeartbeats 8000000 in
theorem tspread_run {Post : Value → World → Prop} {W : World} (hP : ∀ w', Keep W w' → Post (.bool true) w') (xs : List (Int × Int)) {sl : Option Addr} {cap : Nat} {n : Int} (hlen : xs.length ≤ 4611686018427387904) (hst : StepsAt sl xs W) (hsl : ∀ ar off, sl = some ⟨ar, off, none⟩ → ar < W.heap.size) :
    Run Try.prog (top Post W) (G ((base 4).at ⟨#[.slice sl xs.length cap, .int .i64 n, undef, undef, undef, undef, undef, undef, undef, undef, undef, undef, undef, undef, undef, undef, undef, undef, undef, undef, undef, undef, undef, undef, undef, undef, undef, undef, undef, undef, undef, undef, undef, undef, undef, undef, undef, undef, undef, undef, undef, undef, undef, undef, undef, undef, undef, undef, undef, undef, undef, undef, undef, undef, undef, undef, undef, undef, undef, undef, undef, undef, undef, undef, undef, undef, undef, undef, undef, undef, undef, undef, undef, undef, undef, undef, undef, undef, undef, undef, undef, undef, undef, undef, undef, undef, undef, undef, undef, undef, undef, undef, undef, undef, undef, undef, undef, undef, undef, undef, undef, undef], []⟩ [.code (Try.f4.body.getD .skip)]) []) W := by
  have hX0 := top_ok Post W
  have hm0 := top_mem Post W
  have hpost : (top Post W).Post = Post := rfl
  have hrd0 : (top Post W).reads sl := fun ar off e => top_free Post (hsl ar off e)
  generalize top Post W = X0 at hX0 hm0 hpost hrd0 ⊢
  simp only [Try.f4, Option.getD_some]
  repeat first
    | refine Run.seq ?_
    | refine Run.skip ?_
    | refine Run.regionEnd ?_
    | refine Run.block ?_
    | refine Run.inBlock ?_
    | (refine Run.region ?_; simp only [List.size_toArray, List.length_cons, List.length_nil, Nat.reduceAdd, Nat.zero_add, List.range, List.range.loop])
    | (refine Run.cond rfl ?_; simp only [if_true, if_false, Bool.false_eq_true, ↓reduceIte])
    | (refine Run.unwanted rfl rfl ?_; walk_nrm)
    | (refine Run.op0 rfl rfl (by k_ne) (fun d K hK => by go_simp; exact hK) (fun d => by first | (simp [go_sem, *] <;> fail) | fail) ?_; try w_num)
    | refine Run.ret ?_
    | refine Run.fin ?_
    | refine Run.exit rfl ?_
  refine Run.con (awake_con hX0 hm0) rfl rfl (by k_ne) rfl (by first | (simp only [List.map_toArray, List.map_cons, List.map_nil]; done) | (simp only [List.map_toArray, List.map_cons, List.map_nil]; rfl)) (fun X1 v w1 hr => ?_)
  obtain ⟨hN1, hK1, rfl⟩ := hr
  have hX1 := hN1.ok hX0
  walk_nrm
  have hp1 : X1.Post = Post := hN1.post.trans hpost
  have hfin : ∀ (X : Cx) (w' : World), X.Post = Post → Keep W w' → ∀ w₁, AtRel w' w₁ → X.Post (.bool true) w₁ := fun X w' e hk w₁ h₁ => by
    obtain ⟨d, rfl⟩ := h₁
    rw [e]
    exact hP _ (keep_at' hk d)
  have hP' : ∀ (X : Cx) (w' : World), X.Post = Post → Keep W w' → X.Post (.bool true) w' := fun X w' e hk => by
    rw [e]
    exact hP _ hk
  by_cases h4096 : 4096 < xs.length
  · have d1 : decide ((4096 : Int) < (xs.length : Int)) = true := decide_eq_true (by omega)
    have d1' : decide (4096 < xs.length) = true := decide_eq_true h4096
    clear hst h4096
    repeat first
      | refine Run.seq ?_
      | refine Run.skip ?_
      | refine Run.regionEnd ?_
      | refine Run.block ?_
      | refine Run.inBlock ?_
      | (refine Run.region ?_; simp only [List.size_toArray, List.length_cons, List.length_nil, Nat.reduceAdd, Nat.zero_add, List.range, List.range.loop])
      | (refine Run.cond rfl ?_; simp only [if_true, if_false, Bool.false_eq_true, ↓reduceIte])
      | (refine Run.unwanted rfl rfl ?_; walk_nrm)
      | (refine Run.op0 rfl rfl (by k_ne) (fun d K hK => by go_simp; exact hK) (fun d => by first | (simp [go_sem, *] <;> fail) | fail) ?_; try w_num)
      | refine Run.ret ?_
      | refine Run.fin ?_
      | refine Run.exit rfl ?_
    exact Run.end1 hX1.hears rfl rfl Try.func4 rfl (by kernel_rfl) (hfin X1 w1 hp1 hK1)
  have d1 : decide ((4096 : Int) < (xs.length : Int)) = false := decide_eq_false (by omega)
  have d1' : decide (4096 < xs.length) = false := decide_eq_false h4096
  have hst1 : StepsAt sl xs w1 := hst.off hK1
  have hrd1 : X1.reads sl := fun ar off e => hN1.free hX0 (hrd0 ar off e)
  obtain ⟨T, hTd⟩ : ∃ T, w1.heap.size = T := ⟨_, rfl⟩
  have hTW : W.heap.size ≤ T := by have := hK1.size; omega
  have hstW := Lib.hid hst
  clear hst hrd0
  repeat first
    | refine Run.seq ?_
    | refine Run.skip ?_
    | refine Run.regionEnd ?_
    | refine Run.block ?_
    | refine Run.inBlock ?_
    | (refine Run.region ?_; simp only [List.size_toArray, List.length_cons, List.length_nil, Nat.reduceAdd, Nat.zero_add, List.range, List.range.loop])
    | (refine Run.cond rfl ?_; simp only [if_true, if_false, Bool.false_eq_true, ↓reduceIte])
    | (refine Run.unwanted rfl rfl ?_; walk_nrm)
    | (refine Run.op0 rfl rfl (by k_ne) (fun d K hK => by go_simp; exact hK) (fun d => by first | (simp [go_sem, *] <;> fail) | fail) ?_; try w_num)
    | refine Run.ret ?_
    | refine Run.fin ?_
    | refine Run.exit rfl ?_
  refine Run.con (new_con hX1) rfl rfl (by k_ne) rfl (by first | (simp only [List.map_toArray, List.map_cons, List.map_nil]; done) | (simp only [List.map_toArray, List.map_cons, List.map_nil]; rfl)) (fun X2 v w2 hr => ?_)
  obtain ⟨rfl, rfl, hO2, hs2, ht2⟩ := hr
  rw [hTd] at ht2 hs2
  simp only [hTd]
  have hP2 := Cx.next_up (w' := w2) hX1 (by omega)
  have hN2 := hN1.trans hP2
  have hX2 := hN2.ok hX0
  have hrd2 : (X1.up w2.heap.size).reads sl := fun ar off e => hP2.free hX1 (hrd1 ar off e)
  have hK2 : Keep W w2 := hK1.keep hO2 hK1.size
  have hst2 : StepsAt sl xs w2 := hst1.off hO2
  have hA2 : (X1.up w2.heap.size).free T := ⟨by rw [hN2.B]; omega, hX1.new T (by omega)⟩
  generalize X1.up w2.heap.size = X2 at hP2 hN2 hX2 hrd2 hA2 ⊢
  clear hN1 hK1 hX1 hst1 hrd1 hP2 hp1 hO2
  try walk_nrm
  repeat first
    | refine Run.seq ?_
    | refine Run.skip ?_
    | refine Run.regionEnd ?_
    | refine Run.block ?_
    | refine Run.inBlock ?_
    | (refine Run.region ?_; simp only [List.size_toArray, List.length_cons, List.length_nil, Nat.reduceAdd, Nat.zero_add, List.range, List.range.loop])
    | (refine Run.cond rfl ?_; simp only [if_true, if_false, Bool.false_eq_true, ↓reduceIte])
    | (refine Run.unwanted rfl rfl ?_; walk_nrm)
    | (refine Run.op0 rfl rfl (by k_ne) (fun d K hK => by go_simp; exact hK) (fun d => by first | (simp [go_sem, *] <;> fail) | fail) ?_; try w_num)
    | refine Run.ret ?_
    | refine Run.fin ?_
    | refine Run.exit rfl ?_
  refine Run.con (new_con hX2) rfl rfl (by k_ne) rfl (by first | (simp only [List.map_toArray, List.map_cons, List.map_nil]; done) | (simp only [List.map_toArray, List.map_cons, List.map_nil]; rfl)) (fun X3 v w3 hr => ?_)
  obtain ⟨rfl, rfl, hO3, hs3, ht3⟩ := hr
  rw [hs2] at ht3 hs3
  simp only [hs2]
  have hP3 := Cx.next_up (w' := w3) hX2 (by omega)
  have hN3 := hN2.trans hP3
  have hX3 := hN3.ok hX0
  have hrd3 : (X2.up w3.heap.size).reads sl := fun ar off e => hP3.free hX2 (hrd2 ar off e)
  have hK3 : Keep W w3 := hK2.keep hO3 hK2.size
  have hst3 : StepsAt sl xs w3 := hst2.off hO3
  have hB3 : (X2.up w3.heap.size).free (T + 1) := ⟨by rw [hN3.B]; omega, hX2.new (T + 1) (by omega)⟩
  have hA3 := hP3.free hX2 hA2
  have tA3 : TlAt T tl0 w3 := ht2.block' (hO3.block T (by omega) (by omega))
  have tB3 : TlAt (T + 1) tl0 w3 := ht3
  generalize X2.up w3.heap.size = X3 at hP3 hN3 hX3 hrd3 hA3 hB3 ⊢
  clear hN2 hK2 hX2 hst2 hrd2 hP3 hO3 hA2 ht2 ht3 hs2
  try walk_nrm
  repeat first
    | refine Run.seq ?_
    | refine Run.skip ?_
    | refine Run.regionEnd ?_
    | refine Run.block ?_
    | refine Run.inBlock ?_
    | (refine Run.region ?_; simp only [List.size_toArray, List.length_cons, List.length_nil, Nat.reduceAdd, Nat.zero_add, List.range, List.range.loop])
    | (refine Run.cond rfl ?_; simp only [if_true, if_false, Bool.false_eq_true, ↓reduceIte])
    | (refine Run.unwanted rfl rfl ?_; walk_nrm)
    | (refine Run.op0 rfl rfl (by k_ne) (fun d K hK => by go_simp; exact hK) (fun d => by first | (simp [go_sem, *] <;> fail) | fail) ?_; try w_num)
    | refine Run.ret ?_
    | refine Run.fin ?_
    | refine Run.exit rfl ?_
  refine Run.con (new_con hX3) rfl rfl (by k_ne) rfl (by first | (simp only [List.map_toArray, List.map_cons, List.map_nil]; done) | (simp only [List.map_toArray, List.map_cons, List.map_nil]; rfl)) (fun X4 v w4 hr => ?_)
  obtain ⟨rfl, rfl, hO4, hs4, ht4⟩ := hr
  rw [hs3] at ht4 hs4
  simp only [hs3]
  have hP4 := Cx.next_up (w' := w4) hX3 (by omega)
  have hN4 := hN3.trans hP4
  have hX4 := hN4.ok hX0
  have hrd4 : (X3.up w4.heap.size).reads sl := fun ar off e => hP4.free hX3 (hrd3 ar off e)
  have hK4 : Keep W w4 := hK3.keep hO4 hK3.size
  have hst4 : StepsAt sl xs w4 := hst3.off hO4
  have hC4 : (X3.up w4.heap.size).free (T + 2) := ⟨by rw [hN4.B]; omega, hX3.new (T + 2) (by omega)⟩
  have hA4 := hP4.free hX3 hA3
  have hB4 := hP4.free hX3 hB3
  have tA4 : TlAt T tl0 w4 := tA3.block' (hO4.block T (by omega) (by omega))
  have tB4 : TlAt (T + 1) tl0 w4 := tB3.block' (hO4.block (T + 1) (by omega) (by omega))
  have tC4 : TlAt (T + 2) tl0 w4 := ht4
  have hnw4 : ∀ b, T + 3 ≤ b → ∀ o, ¬ (X3.up w4.heap.size).Sh (.cell ⟨b, o, none⟩) := fun b hb => hX3.new b (by omega)
  have hm4 : ∀ l : Loc, l.isMemory = false → (X3.up w4.heap.size).Sh l := fun l hl => hN4.sub l (hm0 l hl)
  generalize X3.up w4.heap.size = X4 at hP4 hN4 hX4 hrd4 hA4 hB4 hC4 hnw4 hm4 ⊢
  clear hN3 hK3 hX3 hst3 hrd3 hP4 hO4 hA3 hB3 tA3 tB3 ht4 hs3
  try walk_nrm
  have ew : IntKind.i64.wrap ((xs.length : Int) - 1) = (xs.length : Int) - 1 := by rw [IntKind.wrap_i64]; omega
  have hB := fun (K : List Item) => back_loop (n := n) (cap := cap) xs (by omega) (A := T) (B := T + 1) (C := T + 2) (lo := T + 3) (fun ar off e => by have := hsl ar off e; omega) (K := K) xs.length ((xs.length : Int) - 1) rfl (Nat.le_refl _) X4 w4 (.slice none 0 0) hX4 hst4 hrd4 hnw4 (by omega) (by rw [List.drop_length]; exact Own2.none w4 _)
  have hB := Lib.hid hB
  have hB := Lib.hid hB
  replace hB := hB.out.out
  simp only [lp1, loops, Try.f4, Option.getD_some, List.nil_append, List.append_nil, List.cons_append, List.getD_cons_zero, List.getD_cons_succ] at hB
  replace hB := Lib.hid hB
  clear hst4
  repeat first
    | refine Run.seq ?_
    | refine Run.skip ?_
    | refine Run.regionEnd ?_
    | refine Run.block ?_
    | refine Run.inBlock ?_
    | (refine Run.region ?_; simp only [List.size_toArray, List.length_cons, List.length_nil, Nat.reduceAdd, Nat.zero_add, List.range, List.range.loop])
    | (refine Run.cond rfl ?_; simp only [if_true, if_false, Bool.false_eq_true, ↓reduceIte])
    | (refine Run.unwanted rfl rfl ?_; walk_nrm)
    | (refine Run.op0 rfl rfl (by k_ne) (fun d K hK => by go_simp; exact hK) (fun d => by first | (simp [go_sem, *] <;> fail) | fail) ?_; try w_num)
    | refine Run.ret ?_
    | refine Run.fin ?_
    | refine Run.exit rfl ?_
  first | rw [ew] | skip
  refine Run.loop ?_
  refine hB.out _ ?_ _ _ _ _ _ _ _ _ _ _ _ _ _ _ _ _ _ _ _ _ _ _ _ _ _ _ _ _ _ _ _ _ _ _ _ _ _ _ _ _ _ _ _ _ _ _ _ _ _ _ _ _ _ _ _ _ _ _ _ _ _ _ _ _ _ _ _ _ _ _ _ _ _ _ _ _ _ _ _ _ _ _ _ _ _ _ _ _ _ _ _ _ _ _
  clear hB
  intro w5 v5 y2 y3 y10 y11 y12 y13 y14 y15 y16 y17 y18 y19 y20 y21 y22 y23 y24 y25 y26 y27 y28 y29 y30 y31 y32 y33 y34 y35 y36 y37 y38 y39 y40 y41 y42 y43 y44 y45 y46 y47 y48 y49 y50 y51 y52 y53 y54 y55 y56 y57 y58 y59 y60 y61 y62 y63 y64 y65 y66 y67 y68 y69 y70 y71 y72 y73 y74 y75 y76 y77 y78 y79 y80 y81 y82 y83 y84 y85 y86 y87 y88 y89 y90 y91 y92 y93 y94 y95 y96 y97 y98 y99 y100 y101 hown5 hb5
  have hP5 := Cx.next_up (w' := w5) hX4 hb5.size
  have hN5 := hN4.trans hP5
  have hX5 := hN5.ok hX0
  have hA5 := hP5.free hX4 hA4
  have hB5 := hP5.free hX4 hB4
  have hC5 := hP5.free hX4 hC4
  have tA5 : TlAt T tl0 w5 := tA4.block' (hb5.block T (by omega))
  have tB5 : TlAt (T + 1) tl0 w5 := tB4.block' (hb5.block (T + 1) (by omega))
  have tC5 : TlAt (T + 2) tl0 w5 := tC4.block' (hb5.block (T + 2) (by omega))
  have hK5 : Keep W w5 := ⟨hb5.tape.trans hK4.tape, hb5.os.trans hK4.os, hb5.output.trans hK4.output, Nat.le_trans hK4.size hb5.size, fun b hb _ => (hb5.block b (by omega)).trans (hK4.block b hb (by omega))⟩
  have hst5 : StepsAt sl xs w5 := hstW.out.off hK5
  have hrd5 : (X4.up w5.heap.size).reads sl := fun ar off e => hP5.free hX4 (hrd4 ar off e)
  have hm5 : ∀ l : Loc, l.isMemory = false → (X4.up w5.heap.size).Sh l := fun l hl => hN5.sub l (hm0 l hl)
  obtain ⟨A5, cap5, rfl, hbk5, hA5'⟩ := hown5.steps
  have hrdb : (X4.up w5.heap.size).reads A5 := fun ar off e => by
    obtain ⟨h1, h2, h3⟩ := hA5' ar off e
    exact ⟨by rw [hN5.B]; omega, hnw4 ar h1⟩
  have hp5 : (X4.up w5.heap.size).Post = Post := hN5.post.trans hpost
  have hlo5 : T + 3 ≤ w5.heap.size := by have := hb5.size; omega
  have hnab : ∀ ar off, A5 = some ⟨ar, off, none⟩ → T + 3 ≤ ar := fun ar off e => (hA5' ar off e).1
  have hnas : ∀ ar off, sl = some ⟨ar, off, none⟩ → ar < T := fun ar off e => by have := hsl ar off e; omega
  generalize X4.up w5.heap.size = X5 at hP5 hN5 hX5 hA5 hB5 hC5 hrd5 hm5 hrdb hp5 ⊢
  clear hN4 hK4 hX4 hrd4 hA4 hB4 hC4 tA4 tB4 tC4 hnw4 hm4 hP5 hb5 hown5 hA5'
  try walk_nrm
  have hS1 := spread_con (x := tl0) xs (sl := sl) (cap := cap) (n := n) (by omega) hX5 hm5 hA5 tA5 (fun c => by show w64 0 = 0; decide) hst5 hrd5 (fun ar off e => by have := hnas ar off e; omega)
  have hS1 := Lib.hid hS1
  clear hst5
  repeat first
    | refine Run.seq ?_
    | refine Run.skip ?_
    | refine Run.regionEnd ?_
    | refine Run.block ?_
    | refine Run.inBlock ?_
    | (refine Run.region ?_; simp only [List.size_toArray, List.length_cons, List.length_nil, Nat.reduceAdd, Nat.zero_add, List.range, List.range.loop])
    | (refine Run.cond rfl ?_; simp only [if_true, if_false, Bool.false_eq_true, ↓reduceIte])
    | (refine Run.unwanted rfl rfl ?_; walk_nrm)
    | (refine Run.op0 rfl rfl (by k_ne) (fun d K hK => by go_simp; exact hK) (fun d => by first | (simp [go_sem, *] <;> fail) | fail) ?_; try w_num)
    | refine Run.ret ?_
    | refine Run.fin ?_
    | refine Run.exit rfl ?_
  refine Run.con hS1.out rfl rfl (by k_ne) rfl (by first | (simp only [List.map_toArray, List.map_cons, List.map_nil]; done) | (simp only [List.map_toArray, List.map_cons, List.map_nil]; rfl)) (fun X6 v6 w6 hr => ?_)
  obtain ⟨n6, o6, h6⟩ := hr
  clear hS1
  have hX6 := n6.ok hX5
  have hA6 := n6.free hX5 hA5
  have hB6 := n6.free hX5 hB5
  have hC6 := n6.free hX5 hC5
  have hm6 : ∀ l : Loc, l.isMemory = false → X6.Sh l := fun l hl => n6.sub l (hm5 l hl)
  have hrd6 : X6.reads sl := fun ar off e => n6.free hX5 (hrd5 ar off e)
  have hrdb6 : X6.reads A5 := fun ar off e => n6.free hX5 (hrdb ar off e)
  have hp6 := n6.post.trans hp5
  have tB6 : TlAt (T + 1) tl0 w6 := tB5.block' (o6.block (T + 1) (by omega) (by omega))
  have tC6 : TlAt (T + 2) tl0 w6 := tC5.block' (o6.block (T + 2) (by omega) (by omega))
  have hK6 : Keep W w6 := hK5.keep o6 (by omega)
  have hbk6 : StepsAt A5 xs.reverse w6 := fun hx => by
    obtain ⟨ar, off, e, har, hc⟩ := hbk5 hx
    have := hnab ar off e
    exact ⟨ar, off, e, Nat.lt_of_lt_of_le har o6.size, fun j hj => ⟨(cell_heap (o6.block ar har (by omega))).trans (hc j hj).1, (cell_heap (o6.block ar har (by omega))).trans (hc j hj).2⟩⟩
  have hlo6 : T + 3 ≤ w6.heap.size := by have := o6.size; omega
  obtain ⟨e6, rfl⟩ : ∃ e6, v6 = .int .i64 e6 := by rcases h6 with ⟨_, h, _⟩ | ⟨_, h, _⟩ <;> exact ⟨_, h⟩
  clear hX5 hA5 hB5 hC5 hm5 hrd5 hrdb hp5 tA5 tB5 tC5 hK5 hbk5 n6 o6 hN5
  replace h6 := Lib.hid h6
  try walk_nrm
  have hS2 := spread_con (x := tl0) xs.reverse (sl := A5) (cap := cap5) (n := n) (by simp only [List.length_reverse]; omega) hX6 hm6 hB6 tB6 (fun c => by show w64 0 = 0; decide) hbk6 hrdb6 (fun ar off e => by have := hnab ar off e; omega)
  rw [List.length_reverse] at hS2
  replace hS2 := Lib.hid hS2
  replace hbk6 := Lib.hid hbk6
  repeat first
    | refine Run.seq ?_
    | refine Run.skip ?_
    | refine Run.regionEnd ?_
    | refine Run.block ?_
    | refine Run.inBlock ?_
    | (refine Run.region ?_; simp only [List.size_toArray, List.length_cons, List.length_nil, Nat.reduceAdd, Nat.zero_add, List.range, List.range.loop])
    | (refine Run.cond rfl ?_; simp only [if_true, if_false, Bool.false_eq_true, ↓reduceIte])
    | (refine Run.unwanted rfl rfl ?_; walk_nrm)
    | (refine Run.op0 rfl rfl (by k_ne) (fun d K hK => by go_simp; exact hK) (fun d => by first | (simp [go_sem, *] <;> fail) | fail) ?_; try w_num)
    | refine Run.ret ?_
    | refine Run.fin ?_
    | refine Run.exit rfl ?_
  refine Run.con hS2.out rfl rfl (by k_ne) rfl (by first | (simp only [List.map_toArray, List.map_cons, List.map_nil]; done) | (simp only [List.map_toArray, List.map_cons, List.map_nil]; rfl)) (fun X7 v7 w7 hr => ?_)
  obtain ⟨n7, o7, h7⟩ := hr
  clear hS2 hbk6
  have hX7 := n7.ok hX6
  have hA7 := n7.free hX6 hA6
  have hB7 := n7.free hX6 hB6
  have hC7 := n7.free hX6 hC6
  have hrd7 : X7.reads sl := fun ar off e => n7.free hX6 (hrd6 ar off e)
  have hp7 := n7.post.trans hp6
  have hd7 := n7.d
  have tC7 : TlAt (T + 2) tl0 w7 := tC6.block' (o7.block (T + 2) (by omega) (by omega))
  have hK7 : Keep W w7 := hK6.keep o7 (by omega)
  have hst7 : StepsAt sl xs w7 := hstW.out.off hK7
  have hOld := o7.block T (by omega) (by omega)
  have hlo7 : T + 3 ≤ w7.heap.size := by have := o7.size; omega
  clear hX6 hA6 hB6 hC6 hm6 hrd6 hrdb6 hp6 tB6 tC6 hK6 n7 o7
  obtain ⟨e, x, y, he6, he7, tA7, tB7, hcase⟩ : ∃ (e : Int) (x y : Tl), e6 = e ∧ v7 = .int .i64 e ∧ TlAt T x w7 ∧ TlAt (T + 1) y w7 ∧ ((e = 0 ∧ xs.any bad = false ∧ x = tl0.spread xs ∧ y = tl0.spread xs.reverse) ∨ (e = 1 ∧ x = tl0 ∧ y = tl0)) := by
    rcases h6.out with ⟨k1, k2, k3⟩ | ⟨k1, k2, k3⟩ <;> rcases h7 with ⟨l1, l2, l3⟩ | ⟨l1, l2, l3⟩
    · exact ⟨0, _, _, (by cases k2; rfl), l2, k3.block' hOld, l3, .inl ⟨rfl, k1.2.2, rfl, rfl⟩⟩
    · exact absurd (ok_rev.2 k1) l1
    · exact absurd (ok_rev.1 l1) k1
    · exact ⟨1, _, _, (by cases k2; rfl), l2, k3.block' hOld, l3, .inr ⟨rfl, rfl, rfl⟩⟩
  subst he6
  subst he7
  clear h6 h7 hOld
  have ewr : IntKind.i64.wrap 0 = 0 := by decide
  rcases hcase with ⟨rfl, hbad, rfl, rfl⟩ | ⟨rfl, rfl, rfl⟩
  · have hE := fun (y2 y3 y9 y12 y13 y14 y15 y16 y17 y18 y19 y20 y21 y22 y23 y24 y25 y26 y27 y28 y29 y30 y31 y32 y33 y34 y35 y36 y37 y38 y39 y40 y41 y42 y43 y44 y45 y46 y47 y48 y49 y50 y51 y52 y53 y54 y55 y56 y57 y58 y59 y60 y61 y62 y63 y64 y65 y66 y67 y68 y69 y70 y71 y72 y73 y74 y75 y76 y77 y78 y79 y80 y81 y82 y83 y84 y85 y86 y87 y88 y89 y90 y91 y92 y93 y94 y95 y96 y97 y98 y99 y100 y101 : Value) => sp_yes (xs := xs) (sl := sl) (cap := cap) (n := n) (v8 := .slice A5 xs.length cap5) (X := X7) (w := w7) (by omega) hbad hd7 hA7.1 hB7.1 hC7 (by omega) (by omega) hrd7 (fun ar off e => by have := hnas ar off e; omega) hst7 tA7 tB7 tC7 (fun w' h => hP' X7 w' hp7 (hK7.keep (Off.of_aside h) (by omega))) y2 y3 y9 y12 y13 y14 y15 y16 y17 y18 y19 y20 y21 y22 y23 y24 y25 y26 y27 y28 y29 y30 y31 y32 y33 y34 y35 y36 y37 y38 y39 y40 y41 y42 y43 y44 y45 y46 y47 y48 y49 y50 y51 y52 y53 y54 y55 y56 y57 y58 y59 y60 y61 y62 y63 y64 y65 y66 y67 y68 y69 y70 y71 y72 y73 y74 y75 y76 y77 y78 y79 y80 y81 y82 y83 y84 y85 y86 y87 y88 y89 y90 y91 y92 y93 y94 y95 y96 y97 y98 y99 y100 y101
    simp only [tl4, tailAt, Try.f4, Option.getD_some] at hE
    replace hE := Lib.hid hE
    clear tA7 tB7 tC7 hst7 hK7 hX7 hrd7
    repeat first
      | refine Run.regionEnd ?_
      | refine Run.skip ?_
      | (refine Run.op0 rfl rfl (by k_ne) (fun d K hK => by go_simp; exact hK) (fun d => by first | (simp [go_sem, *] <;> fail) | fail) ?_; try w_num)
    exact hE.out _ _ _ _ _ _ _ _ _ _ _ _ _ _ _ _ _ _ _ _ _ _ _ _ _ _ _ _ _ _ _ _ _ _ _ _ _ _ _ _ _ _ _ _ _ _ _ _ _ _ _ _ _ _ _ _ _ _ _ _ _ _ _ _ _ _ _ _ _ _ _ _ _ _ _ _ _ _ _ _ _ _ _ _ _ _ _ _ _ _ _ _ _
  · have hE := fun (y2 y3 y9 y12 y13 y14 y15 y16 y17 y18 y19 y20 y21 y22 y23 y24 y25 y26 y27 y28 y29 y30 y31 y32 y33 y34 y35 y36 y37 y38 y39 y40 y41 y42 y43 y44 y45 y46 y47 y48 y49 y50 y51 y52 y53 y54 y55 y56 y57 y58 y59 y60 y61 y62 y63 y64 y65 y66 y67 y68 y69 y70 y71 y72 y73 y74 y75 y76 y77 y78 y79 y80 y81 y82 y83 y84 y85 y86 y87 y88 y89 y90 y91 y92 y93 y94 y95 y96 y97 y98 y99 y100 y101 : Value) => sp_no (xs := xs) (sl := sl) (cap := cap) (n := n) (v8 := .slice A5 xs.length cap5) (X := X7) (w := w7) (A := T) (B := T + 1) (C := T + 2) ⟨hd7, hA7.1, hB7.1, hC7.1, tA7, tB7, tC7, fun _ => rfl, fun _ => rfl, rfl, rfl⟩ (hfin X7 w7 hp7 hK7) y2 y3 y9 y12 y13 y14 y15 y16 y17 y18 y19 y20 y21 y22 y23 y24 y25 y26 y27 y28 y29 y30 y31 y32 y33 y34 y35 y36 y37 y38 y39 y40 y41 y42 y43 y44 y45 y46 y47 y48 y49 y50 y51 y52 y53 y54 y55 y56 y57 y58 y59 y60 y61 y62 y63 y64 y65 y66 y67 y68 y69 y70 y71 y72 y73 y74 y75 y76 y77 y78 y79 y80 y81 y82 y83 y84 y85 y86 y87 y88 y89 y90 y91 y92 y93 y94 y95 y96 y97 y98 y99 y100 y101
    simp only [tl4, tailAt, Try.f4, Option.getD_some] at hE
    replace hE := Lib.hid hE
    clear tA7 tB7 tC7 hst7 hK7 hX7 hrd7
    repeat first
      | refine Run.regionEnd ?_
      | refine Run.skip ?_
      | (refine Run.op0 rfl rfl (by k_ne) (fun d K hK => by go_simp; exact hK) (fun d => by first | (simp [go_sem, *] <;> fail) | fail) ?_; try w_num)
    exact hE.out _ _ _ _ _ _ _ _ _ _ _ _ _ _ _ _ _ _ _ _ _ _ _ _ _ _ _ _ _ _ _ _ _ _ _ _ _ _ _ _ _ _ _ _ _ _ _ _ _ _ _ _ _ _ _ _ _ _ _ _ _ _ _ _ _ _ _ _ _ _ _ _ _ _ _ _ _ _ _ _ _ _ _ _ _ _ _ _ _ _ _ _ _
end Go.Proofs.Ytboiolnnhmlieaa.Gang
