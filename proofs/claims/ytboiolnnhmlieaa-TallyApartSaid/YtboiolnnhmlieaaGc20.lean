
/-
  TallyApart: its walk.
  Conditions: stated lemma by lemma.
-/
import Derived.Test.YtboiolnnhmlieaaGc19
namespace Go.Proofs.Ytboiolnnhmlieaa.Gang
open Go.Conc Go.ConcN Go.RowKit Go.Conc.Lib Go.ConcR.Gen Go.ConcN.Gen
set_option linter.unusedVariables false
set_option linter.unusedSimpArgs false
theorem keep_at {T : Nat} {w w' : World} (h : Off T w w') (d : Nat) : Off T w (w'.at d) := ⟨h.tape, h.os, h.output, h.size, h.block⟩
theorem mk320 (w : World) : (Instr.buildSlice 32 0 #[]).run Try.prog w = .ok (.slice (some ⟨w.heap.size, 0, none⟩) 0 0) (w.alloc (.cells #[] 31)) :=
  by simp [Instr.buildSlice, run_underlying Try.underlying32, sizeOf, typeInfo, info31, newRow, Instr.fill, Array.eq_empty_of_size_eq_zero (show (Array.range 0).size = 0 by simp)]
theorem ev320 (w : World) (es : Array Event) : (Instr.buildSlice 32 0 #[]).events Try.prog w es = es := by
  unfold Instr.buildSlice
  simp [go_sem]
theorem mk321 (w : World) (i n : Int) : (Instr.buildSlice 32 1 #[(0, .agg #[.int .i64 i, .int .i64 n])]).run Try.prog w = .ok (.slice (some ⟨w.heap.size, 0, none⟩) 1 1) (w.alloc (.cells #[.int .i64 i, .int .i64 n] 31)) :=
  run_buildSlice w 32 31 1 _ _ _ (.agg #[.int .i64 0, .int .i64 0]) Try.underlying32 info31 (by kernel_rfl) (by decide) (by decide) (by kernel_rfl)
theorem ev321 (w : World) (es : Array Event) (i n : Int) : (Instr.buildSlice 32 1 #[(0, .agg #[.int .i64 i, .int .i64 n])]).events Try.prog w es = es := by
  unfold Instr.buildSlice
  simp [go_sem]
/-- a block that is as it was -/
theorem TlAt.block {T : Nat} {x : Tl} {w w' : World} (h : TlAt T x w) (hb : w'.heap[T]? = w.heap[T]?) : TlAt T x w' := by
  unfold TlAt TalAt at h ⊢
  rw [hb]
  exact h
theorem get_zero {X : Cx} {T : Nat} {x : Tl} {w : World} (hB : T < X.B) (h : TlAt T x w) (hx : ∀ c, x.cs c = 0) (i : Int) : Con Try.prog X 21 #[.pointer (some ⟨T, 0, none⟩), .int .i64 i] w (fun X' v w' => X' = X ∧ w' = w ∧ v = .int .i64 0) := by
  have := get_con hB h i
  rwa [show (if 0 ≤ i ∧ i < 8 then x.cs i.toNat else 0) = 0 by split <;> simp [hx]] at this
theorem cells2 {w : World} {b : Nat} {x y : Int} {e : TypeId} (h : w.heap[b]? = some (.cells #[.int .i64 x, .int .i64 y] e)) : w.cell? ⟨b, 0, none⟩ = some (.int .i64 x) ∧ w.cell? ⟨b, 1, none⟩ = some (.int .i64 y) := by
  unfold World.cell?
  simp only [h]
  exact ⟨rfl, rfl⟩
theorem alloc_new (w : World) (o : Obj) : (w.alloc o).heap[w.heap.size]? = some o := by unfold World.alloc; simp
noncomputable def loop6 : Code := match Try.f6.body.getD .skip with | .seq _ (.seq _ (.seq _ (.seq _ (.seq _ (.seq _ (.seq _ (.seq _ (.seq _ (.seq _ (.seq (.seq _ (.block _ (.loop c))) _)))))))))) => c | .seq _ (.seq _ (.seq _ (.seq _ (.seq _ (.seq _ (.seq _ (.seq _ (.seq _ (.seq _ (.seq _ (.seq (.block _ (.loop c)) _))))))))))) => c | _ => .skip
set_option maxRecDepth 100000 in
set_option maxHeartbeats 8000000 in
theorem apart_loop {X : Cx} {w : World} {N0 T U : Nat} {x y : Tl} (hT : T < X.B) (hU : U < X.B) (ht : TlAt T x w) (hu : TlAt U y w) (hx : ∀ c, x.cs c = 0) (hy : ∀ c, y.cs c = 0)
    {K : List Item} (hK : ∀ (y0 y1 y2 y3 y5 y9 y10 y12 y13 y14 y15 y16 y17 y18 y19 y20 y21 y22 y23 y24 y25 y26 y27 y28 y29 y30 y31 y32 y33 y34 y35 y36 y37 y38 y39 y40 y41 y42 y43 y44 y45 y46 y47 y48 y49 y50 y51 y52 y53 y54 y55 y56 y57 y58 y59 y60 y61 y62 y63 y64 y65 : Value), Run Try.prog X (G ((base 6).at ⟨#[y0, y1, y2, y3, .pointer (some ⟨N0, 0, none⟩), y5, .bool false, .pointer (some ⟨T, 0, none⟩), .pointer (some ⟨U, 0, none⟩), y9, y10, .int .i64 8, y12, y13, y14, y15, y16, y17, y18, y19, y20, y21, y22, y23, y24, y25, y26, y27, y28, y29, y30, y31, y32, y33, y34, y35, y36, y37, y38, y39, y40, y41, y42, y43, y44, y45, y46, y47, y48, y49, y50, y51, y52, y53, y54, y55, y56, y57, y58, y59, y60, y61, y62, y63, y64, y65], []⟩ K) []) w) : ∀ (m k : Nat), k + m = 8 → ∀ (y0 y1 y2 y3 y5 y9 y10 y12 y13 y14 y15 y16 y17 y18 y19 y20 y21 y22 y23 y24 y25 y26 y27 y28 y29 y30 y31 y32 y33 y34 y35 y36 y37 y38 y39 y40 y41 y42 y43 y44 y45 y46 y47 y48 y49 y50 y51 y52 y53 y54 y55 y56 y57 y58 y59 y60 y61 y62 y63 y64 y65 : Value),
    Run Try.prog X (G ((base 6).at ⟨#[y0, y1, y2, y3, .pointer (some ⟨N0, 0, none⟩), y5, .bool false, .pointer (some ⟨T, 0, none⟩), .pointer (some ⟨U, 0, none⟩), y9, y10, .int .i64 (k : Int), y12, y13, y14, y15, y16, y17, y18, y19, y20, y21, y22, y23, y24, y25, y26, y27, y28, y29, y30, y31, y32, y33, y34, y35, y36, y37, y38, y39, y40, y41, y42, y43, y44, y45, y46, y47, y48, y49, y50, y51, y52, y53, y54, y55, y56, y57, y58, y59, y60, y61, y62, y63, y64, y65], []⟩ (.code loop6 :: .inLoop loop6 :: .inBlock 0 :: K)) []) w := by
  intro m
  induction m with
  | zero =>
    intro k hk y0 y1 y2 y3 y5 y9 y10 y12 y13 y14 y15 y16 y17 y18 y19 y20 y21 y22 y23 y24 y25 y26 y27 y28 y29 y30 y31 y32 y33 y34 y35 y36 y37 y38 y39 y40 y41 y42 y43 y44 y45 y46 y47 y48 y49 y50 y51 y52 y53 y54 y55 y56 y57 y58 y59 y60 y61 y62 y63 y64 y65
    obtain rfl : k = 8 := by omega
    simp only [loop6, Try.f6, Option.getD_some]
    repeat first
      | refine Run.seq ?_
      | refine Run.skip ?_
      | refine Run.regionEnd ?_
      | refine Run.block ?_
      | refine Run.inBlock ?_
      | (refine Run.region ?_; simp only [List.size_toArray, List.length_cons, List.length_nil, Nat.reduceAdd, Nat.zero_add, List.range, List.range.loop])
      | (refine Run.cond rfl ?_; simp only [if_true, if_false, Bool.false_eq_true, ↓reduceIte])
      | (refine Run.unwanted rfl rfl ?_; walk_nrm)
      | (refine Run.op0 rfl rfl (by k_ne) (fun d K hK => by go_simp; exact hK) (fun d => by first | (simp [go_sem, *] <;> fail) | fail) ?_; try w_num)
      | refine Run.ret ?_
      | refine Run.fin ?_
      | refine Run.exit rfl ?_
    exact hK _ _ _ _ _ _ _ _ _ _ _ _ _ _ _ _ _ _ _ _ _ _ _ _ _ _ _ _ _ _ _ _ _ _ _ _ _ _ _ _ _ _ _ _ _ _ _ _ _ _ _ _ _ _ _ _ _ _ _ _ _
  | succ m ih =>
    intro k hk y0 y1 y2 y3 y5 y9 y10 y12 y13 y14 y15 y16 y17 y18 y19 y20 y21 y22 y23 y24 y25 y26 y27 y28 y29 y30 y31 y32 y33 y34 y35 y36 y37 y38 y39 y40 y41 y42 y43 y44 y45 y46 y47 y48 y49 y50 y51 y52 y53 y54 y55 y56 y57 y58 y59 y60 y61 y62 y63 y64 y65
    have hkN : k < 8 := by omega
    have hlt : decide ((k : Int) < 8) = true := decide_eq_true (by omega)
    have ew : IntKind.i64.wrap ((k : Int) + 1) = ((k + 1 : Nat) : Int) := by rw [IntKind.wrap_i64]; omega
    have hC := get_zero hT ht hx (k : Int)
    have hD := get_zero hU hu hy (k : Int)
    have ih := ih (k + 1) (by omega)
    simp only [loop6, Try.f6, Option.getD_some] at ih ⊢
    clear ht hu hx hy
    repeat first
      | refine Run.seq ?_
      | refine Run.skip ?_
      | refine Run.regionEnd ?_
      | refine Run.block ?_
      | refine Run.inBlock ?_
      | (refine Run.region ?_; simp only [List.size_toArray, List.length_cons, List.length_nil, Nat.reduceAdd, Nat.zero_add, List.range, List.range.loop])
      | (refine Run.cond rfl ?_; simp only [if_true, if_false, Bool.false_eq_true, ↓reduceIte])
      | (refine Run.unwanted rfl rfl ?_; walk_nrm)
      | (refine Run.op0 rfl rfl (by k_ne) (fun d K hK => by go_simp; exact hK) (fun d => by first | (simp [go_sem, *] <;> fail) | fail) ?_; try w_num)
      | refine Run.ret ?_
      | refine Run.fin ?_
      | refine Run.exit rfl ?_
    refine Run.con hC rfl rfl (by k_ne) rfl (by first | (simp only [List.map_toArray, List.map_cons, List.map_nil]; done) | (simp only [List.map_toArray, List.map_cons, List.map_nil]; rfl)) (fun X1 v w1 hr => ?_)
    obtain ⟨rfl, rfl, rfl⟩ := hr
    walk_nrm
    repeat first
      | refine Run.seq ?_
      | refine Run.skip ?_
      | refine Run.regionEnd ?_
      | refine Run.block ?_
      | refine Run.inBlock ?_
      | (refine Run.region ?_; simp only [List.size_toArray, List.length_cons, List.length_nil, Nat.reduceAdd, Nat.zero_add, List.range, List.range.loop])
      | (refine Run.cond rfl ?_; simp only [if_true, if_false, Bool.false_eq_true, ↓reduceIte])
      | (refine Run.unwanted rfl rfl ?_; walk_nrm)
      | (refine Run.op0 rfl rfl (by k_ne) (fun d K hK => by go_simp; exact hK) (fun d => by first | (simp [go_sem, *] <;> fail) | fail) ?_; try w_num)
      | refine Run.ret ?_
      | refine Run.fin ?_
      | refine Run.exit rfl ?_
    refine Run.con hD rfl rfl (by k_ne) rfl (by first | (simp only [List.map_toArray, List.map_cons, List.map_nil]; done) | (simp only [List.map_toArray, List.map_cons, List.map_nil]; rfl)) (fun X1 v w1 hr => ?_)
    obtain ⟨rfl, rfl, rfl⟩ := hr
    walk_nrm
    repeat first
      | refine Run.seq ?_
      | refine Run.skip ?_
      | refine Run.regionEnd ?_
      | refine Run.block ?_
      | refine Run.inBlock ?_
      | (refine Run.region ?_; simp only [List.size_toArray, List.length_cons, List.length_nil, Nat.reduceAdd, Nat.zero_add, List.range, List.range.loop])
      | (refine Run.cond rfl ?_; simp only [if_true, if_false, Bool.false_eq_true, ↓reduceIte])
      | (refine Run.unwanted rfl rfl ?_; walk_nrm)
      | (refine Run.op0 rfl rfl (by k_ne) (fun d K hK => by go_simp; exact hK) (fun d => by first | (simp [go_sem, *] <;> fail) | fail) ?_; try w_num)
      | refine Run.ret ?_
      | refine Run.fin ?_
      | refine Run.exit rfl ?_
    first | rw [ew] | rw [show (k : Int) + 1 = ((k + 1 : Nat) : Int) by omega]
    refine Run.inLoop ?_
    exact ih _ _ _ _ _ _ _ _ _ _ _ _ _ _ _ _ _ _ _ _ _ _ _ _ _ _ _ _ _ _ _ _ _ _ _ _ _ _ _ _ _ _ _ _ _ _ _ _ _ _ _ _ _ _ _ _ _ _ _ _ _
set_option maxRecDepth 100000 in
set_option maxHeartbeats 8000000 in
theorem apart_run {Post : Value → World → Prop} {W : World} (hP : ∀ w', Keep W w' → Post (.bool true) w') (xs : List (Int × Int)) {sl : Option Addr} {cap : Nat} {n bi bn : Int} (hlen : xs.length ≤ 4611686018427387904) (hst : StepsAt sl xs W) (hsl : ∀ ar off, sl = some ⟨ar, off, none⟩ → ar < W.heap.size) :
    Run Try.prog (top Post W) (G ((base 6).at ⟨#[.slice sl xs.length cap, .agg #[.int .i64 bi, .int .i64 bn], .int .i64 n, undef, undef, undef, undef, undef, undef, undef, undef, undef, undef, undef, undef, undef, undef, undef, undef, undef, undef, undef, undef, undef, undef, undef, undef, undef, undef, undef, undef, undef, undef, undef, undef, undef, undef, undef, undef, undef, undef, undef, undef, undef, undef, undef, undef, undef, undef, undef, undef, undef, undef, undef, undef, undef, undef, undef, undef, undef, undef, undef, undef, undef, undef, undef], []⟩ [.code (Try.f6.body.getD .skip)]) []) W := by
  have hX0 := top_ok Post W
  have hm0 := top_mem Post W
  have hpost : (top Post W).Post = Post := rfl
  have hrd0 : (top Post W).reads sl := fun ar off e => top_free Post (hsl ar off e)
  generalize top Post W = X0 at hX0 hm0 hpost hrd0 ⊢
  simp only [Try.f6, Option.getD_some]
  repeat first
    | refine Run.seq ?_
    | refine Run.skip ?_
    | refine Run.regionEnd ?_
    | refine Run.block ?_
    | refine Run.inBlock ?_
    | (refine Run.region ?_; simp only [List.size_toArray, List.length_cons, List.length_nil, Nat.reduceAdd, Nat.zero_add, List.range, List.range.loop])
    | (refine Run.cond rfl ?_; simp only [if_true, if_false, Bool.false_eq_true, ↓reduceIte])
    | (refine Run.unwanted rfl rfl ?_; walk_nrm)
    | (refine Run.op0 rfl rfl (by k_ne) (fun d K hK => by go_simp; exact hK) (fun d => by first | (simp [go_sem, *] <;> fail) | fail) ?_; try w_num)
    | refine Run.ret ?_
    | refine Run.fin ?_
    | refine Run.exit rfl ?_
  refine Run.op (W.alloc (.cells #[.int .i64 bi, .int .i64 bn] 31)) rfl rfl (by k_ne) (fun d K hK => by go_simp; exact hK) (fun d e he => by simp [go_sem, *] at he) ?_
  try w_num
  obtain ⟨N0, hN0⟩ : ∃ N0, W.heap.size = N0 := ⟨_, rfl⟩
  have hbx : (W.alloc (.cells #[.int .i64 bi, .int .i64 bn] 31)).heap[N0]? = some (.cells #[.int .i64 bi, .int .i64 bn] 31) := by rw [← hN0]; exact alloc_new W _
  have hO0 : Keep W (W.alloc (.cells #[.int .i64 bi, .int .i64 bn] 31)) := Off.alloc _ W _
  have hs0 : (W.alloc (.cells #[.int .i64 bi, .int .i64 bn] 31)).heap.size = N0 + 1 := by rw [World.size_alloc, hN0]
  simp only [hN0]
  generalize W.alloc (.cells #[.int .i64 bi, .int .i64 bn] 31) = w0 at hbx hO0 hs0 ⊢
  have hQ0 : X0.Next W (X0.up w0.heap.size) w0 := Cx.next_up hX0 (by omega)
  refine Run.up w0.heap.size ?_
  have hY0 := hQ0.ok hX0
  have hn0 : ∀ l : Loc, l.isMemory = false → (X0.up w0.heap.size).Sh l := fun l hl => hQ0.sub l (hm0 l hl)
  have hF0 : (X0.up w0.heap.size).free N0 := ⟨by rw [hQ0.B]; omega, hX0.new N0 (by omega)⟩
  generalize X0.up w0.heap.size = Y0 at hQ0 hY0 hn0 hF0 ⊢
  repeat first
    | refine Run.seq ?_
    | refine Run.skip ?_
    | refine Run.regionEnd ?_
    | refine Run.block ?_
    | refine Run.inBlock ?_
    | (refine Run.region ?_; simp only [List.size_toArray, List.length_cons, List.length_nil, Nat.reduceAdd, Nat.zero_add, List.range, List.range.loop])
    | (refine Run.cond rfl ?_; simp only [if_true, if_false, Bool.false_eq_true, ↓reduceIte])
    | (refine Run.unwanted rfl rfl ?_; walk_nrm)
    | (refine Run.op0 rfl rfl (by k_ne) (fun d K hK => by go_simp; exact hK) (fun d => by first | (simp [go_sem, *] <;> fail) | fail) ?_; try w_num)
    | refine Run.ret ?_
    | refine Run.fin ?_
    | refine Run.exit rfl ?_
  refine Run.con (awake_con hY0 hn0) rfl rfl (by k_ne) rfl (by first | (simp only [List.map_toArray, List.map_cons, List.map_nil]; done) | (simp only [List.map_toArray, List.map_cons, List.map_nil]; rfl)) (fun X1 v w1 hr => ?_)
  obtain ⟨hN1', hO1', rfl⟩ := hr
  have hN1 := hQ0.trans hN1'
  have hF1 := hN1'.free hY0 hF0
  have hbx1 : w1.heap[N0]? = some (.cells #[.int .i64 bi, .int .i64 bn] 31) := (hO1'.block N0 (by omega) (by omega)).trans hbx
  have hO1 : Keep W w1 := hO0.keep hO1' (by omega)
  have hX1 := hN1.ok hX0
  have hs1 : N0 < w1.heap.size := by have := hO1'.size; omega
  clear hQ0 hN1' hO1' hY0 hn0 hF0 hbx hO0 hs0
  walk_nrm
  have hp1 : X1.Post = Post := hN1.post.trans hpost
  have hfin : ∀ (X : Cx) (w' : World), X.Post = Post → Keep W w' → ∀ w₁, AtRel w' w₁ → X.Post (.bool true) w₁ := fun X w' e hk w₁ h₁ => by
    obtain ⟨d, rfl⟩ := h₁
    rw [e]
    exact hP _ (keep_at hk d)
  by_cases h1000 : 1000 < xs.length
  · have d1 : decide ((1000 : Int) < (xs.length : Int)) = true := decide_eq_true (by omega)
    have d1' : decide (1000 < xs.length) = true := decide_eq_true h1000
    clear hst h1000
    repeat first
      | refine Run.seq ?_
      | refine Run.skip ?_
      | refine Run.regionEnd ?_
      | refine Run.block ?_
      | refine Run.inBlock ?_
      | (refine Run.region ?_; simp only [List.size_toArray, List.length_cons, List.length_nil, Nat.reduceAdd, Nat.zero_add, List.range, List.range.loop])
      | (refine Run.cond rfl ?_; simp only [if_true, if_false, Bool.false_eq_true, ↓reduceIte])
      | (refine Run.unwanted rfl rfl ?_; walk_nrm)
      | (refine Run.op0 rfl rfl (by k_ne) (fun d K hK => by go_simp; exact hK) (fun d => by first | (simp [go_sem, *] <;> fail) | fail) ?_; try w_num)
      | refine Run.ret ?_
      | refine Run.fin ?_
      | refine Run.exit rfl ?_
    exact Run.end1 hX1.hears rfl rfl Try.func6 rfl (by kernel_rfl) (hfin X1 w1 hp1 hO1)
  have d1 : decide ((1000 : Int) < (xs.length : Int)) = false := decide_eq_false (by omega)
  have d1' : decide (1000 < xs.length) = false := decide_eq_false h1000
  have hst1 : StepsAt sl xs w1 := hst.off hO1
  have hrd1 : X1.reads sl := fun ar off e => hN1.free hX0 (hrd0 ar off e)
  clear hst hrd0
  repeat first
    | refine Run.seq ?_
    | refine Run.skip ?_
    | refine Run.regionEnd ?_
    | refine Run.block ?_
    | refine Run.inBlock ?_
    | (refine Run.region ?_; simp only [List.size_toArray, List.length_cons, List.length_nil, Nat.reduceAdd, Nat.zero_add, List.range, List.range.loop])
    | (refine Run.cond rfl ?_; simp only [if_true, if_false, Bool.false_eq_true, ↓reduceIte])
    | (refine Run.unwanted rfl rfl ?_; walk_nrm)
    | (refine Run.op0 rfl rfl (by k_ne) (fun d K hK => by go_simp; exact hK) (fun d => by first | (simp [go_sem, *] <;> fail) | fail) ?_; try w_num)
    | refine Run.ret ?_
    | refine Run.fin ?_
    | refine Run.exit rfl ?_
  refine Run.con (new_con hX1) rfl rfl (by k_ne) rfl (by first | (simp only [List.map_toArray, List.map_cons, List.map_nil]; done) | (simp only [List.map_toArray, List.map_cons, List.map_nil]; rfl)) (fun X2 v w2 hr => ?_)
  obtain ⟨rfl, rfl, hO2, hs2, ht2⟩ := hr
  obtain ⟨T, hTd⟩ : ∃ T, w1.heap.size = T := ⟨_, rfl⟩
  rw [hTd] at ht2 hs2 hs1
  simp only [hTd]
  have hP2 := Cx.next_up (w' := w2) hX1 (by omega)
  have hN2 := hN1.trans hP2
  have hX2 := hN2.ok hX0
  have hT2 : (X1.up w2.heap.size).free T := ⟨by rw [hN2.B]; omega, hX1.new T (by omega)⟩
  have hF2 := hP2.free hX1 hF1
  have hrd2 : (X1.up w2.heap.size).reads sl := fun ar off e => hP2.free hX1 (hrd1 ar off e)
  have hK2 : Keep W w2 := hO1.keep hO2 hO1.size
  have hst2 : StepsAt sl xs w2 := hst1.off hO2
  have hbx2 : w2.heap[N0]? = some (.cells #[.int .i64 bi, .int .i64 bn] 31) := (hO2.block N0 (by omega) (by omega)).trans hbx1
  generalize X1.up w2.heap.size = X2 at hN2 hX2 hT2 hF2 hrd2 ⊢
  clear hN1 hO1 hF1 hbx1 hX1 hst1 hrd1 hP2 hp1 hO2
  try walk_nrm
  repeat first
    | refine Run.seq ?_
    | refine Run.skip ?_
    | refine Run.regionEnd ?_
    | refine Run.block ?_
    | refine Run.inBlock ?_
    | (refine Run.region ?_; simp only [List.size_toArray, List.length_cons, List.length_nil, Nat.reduceAdd, Nat.zero_add, List.range, List.range.loop])
    | (refine Run.cond rfl ?_; simp only [if_true, if_false, Bool.false_eq_true, ↓reduceIte])
    | (refine Run.unwanted rfl rfl ?_; walk_nrm)
    | (refine Run.op0 rfl rfl (by k_ne) (fun d K hK => by go_simp; exact hK) (fun d => by first | (simp [go_sem, *] <;> fail) | fail) ?_; try w_num)
    | refine Run.ret ?_
    | refine Run.fin ?_
    | refine Run.exit rfl ?_
  refine Run.con (new_con hX2) rfl rfl (by k_ne) rfl (by first | (simp only [List.map_toArray, List.map_cons, List.map_nil]; done) | (simp only [List.map_toArray, List.map_cons, List.map_nil]; rfl)) (fun X3 v w3 hr => ?_)
  obtain ⟨rfl, rfl, hO3, hs3, hu3⟩ := hr
  rw [hs2] at hu3 hs3
  simp only [hs2]
  have hP3 := Cx.next_up (w' := w3) hX2 (by omega)
  have hN3 := hN2.trans hP3
  have hX3 := hN3.ok hX0
  have hU3 : (X2.up w3.heap.size).free (T + 1) := ⟨by rw [hN3.B]; omega, hX2.new (T + 1) (by omega)⟩
  have hT3 := hP3.free hX2 hT2
  have hF3 := hP3.free hX2 hF2
  have hrd3 : (X2.up w3.heap.size).reads sl := fun ar off e => hP3.free hX2 (hrd2 ar off e)
  have hK3 : Keep W w3 := hK2.keep hO3 hK2.size
  have hNT : N0 < T := hs1
  have hst3 : StepsAt sl xs w3 := hst2.off hO3
  have hbx3 : w3.heap[N0]? = some (.cells #[.int .i64 bi, .int .i64 bn] 31) := (hO3.block N0 (by omega) (by omega)).trans hbx2
  have ht3 : TlAt T tl0 w3 := ht2.block (hO3.block T (by omega) (by omega))
  have hu3 : TlAt (T + 1) tl0 w3 := hu3
  generalize X2.up w3.heap.size = X3 at hN3 hX3 hU3 hT3 hF3 hrd3 ⊢
  clear hN2 hF2 hbx2 hX2 hst2 hrd2 hP3 hO3 hK2 ht2 hT2 hs2
  try walk_nrm
  have m0 := mk320
  have e0 := ev320
  repeat first
    | refine Run.seq ?_
    | refine Run.skip ?_
    | refine Run.regionEnd ?_
    | refine Run.block ?_
    | refine Run.inBlock ?_
    | (refine Run.region ?_; simp only [List.size_toArray, List.length_cons, List.length_nil, Nat.reduceAdd, Nat.zero_add, List.range, List.range.loop])
    | (refine Run.cond rfl ?_; simp only [if_true, if_false, Bool.false_eq_true, ↓reduceIte])
    | (refine Run.unwanted rfl rfl ?_; walk_nrm)
    | (refine Run.op0 rfl rfl (by k_ne) (fun d K hK => by go_simp; exact hK) (fun d => by first | (simp [go_sem, *] <;> fail) | fail) ?_; try w_num)
    | refine Run.ret ?_
    | refine Run.fin ?_
    | refine Run.exit rfl ?_
  refine Run.op (w3.alloc (.cells #[] 31)) rfl rfl (by k_ne) (fun d K hK => by go_simp; exact hK) (fun d e he => by simp [go_sem, *] at he) ?_
  try w_num
  have hown4 : Own2 (w3.alloc (.cells #[] 31)) (T + 2) (.slice (some ⟨w3.heap.size, 0, none⟩) 0 0) [] := Own2.lit (by omega)
  have hO4 : Off w3.heap.size w3 (w3.alloc (.cells #[] 31)) := Off.alloc _ w3 _
  have hs4 : (w3.alloc (.cells #[] 31)).heap.size = T + 3 := by rw [World.size_alloc, hs3]
  rw [hs3] at hown4
  try simp only [hs3]

  refine Run.up (w3.alloc (.cells #[] 31)).heap.size ?_
  have hP4 := Cx.next_up (w' := w3.alloc (.cells #[] 31)) hX3 (by omega)
  have hN4 := hN3.trans hP4
  have hX4 := hN4.ok hX0
  have hnw4 : ∀ b, T + 2 ≤ b → ∀ o, ¬ (X3.up (w3.alloc (.cells #[] 31)).heap.size).Sh (.cell ⟨b, o, none⟩) := fun b hb => hX3.new b (by omega)
  have hU4 := hP4.free hX3 hU3
  have hT4 := hP4.free hX3 hT3
  have hF4 := hP4.free hX3 hF3
  have hrd4 : (X3.up (w3.alloc (.cells #[] 31)).heap.size).reads sl := fun ar off e => hP4.free hX3 (hrd3 ar off e)
  have hK4 : Keep W (w3.alloc (.cells #[] 31)) := hK3.keep hO4 hK3.size
  have hst4 : StepsAt sl xs (w3.alloc (.cells #[] 31)) := hst3.off hO4
  have hbx4 : (w3.alloc (.cells #[] 31)).heap[N0]? = some (.cells #[.int .i64 bi, .int .i64 bn] 31) := (hO4.block N0 (by omega) (by omega)).trans hbx3
  have ht4 : TlAt T tl0 (w3.alloc (.cells #[] 31)) := ht3.block (hO4.block T (by omega) (by omega))
  have hu4 : TlAt (T + 1) tl0 (w3.alloc (.cells #[] 31)) := hu3.block (hO4.block (T + 1) (by omega) (by omega))
  generalize X3.up (w3.alloc (.cells #[] 31)).heap.size = X4 at hP4 hN4 hX4 hnw4 hU4 hT4 hF4 hrd4 ⊢
  generalize w3.alloc (.cells #[] 31) = w4 at *
  clear hN3 hF3 hbx3 hX3 hst3 hrd3 hP4 hO4 hK3 ht3 hu3 hT3 hU3 hs3 m0 e0
  try walk_nrm
  repeat first
    | refine Run.seq ?_
    | refine Run.skip ?_
    | refine Run.regionEnd ?_
    | refine Run.block ?_
    | refine Run.inBlock ?_
    | (refine Run.region ?_; simp only [List.size_toArray, List.length_cons, List.length_nil, Nat.reduceAdd, Nat.zero_add, List.range, List.range.loop])
    | (refine Run.cond rfl ?_; simp only [if_true, if_false, Bool.false_eq_true, ↓reduceIte])
    | (refine Run.unwanted rfl rfl ?_; walk_nrm)
    | (refine Run.op0 rfl rfl (by k_ne) (fun d K hK => by go_simp; exact hK) (fun d => by first | (simp [go_sem, *] <;> fail) | fail) ?_; try w_num)
    | refine Run.ret ?_
    | refine Run.fin ?_
    | refine Run.exit rfl ?_
  refine Run.app2 (ys := xs) (hown := hown4) rfl rfl (by k_ne) _ _ rfl rfl rfl hst4 hrd4 (fun b e => by cases e; exact ⟨by rw [hN4.B]; show T + 1 + 1 < _; omega, hnw4 _ (Nat.le_refl _)⟩) (by simp only [List.length_nil]; omega) (by omega) (fun v5 w5 hown5 hg5 => ?_)
  rw [List.nil_append] at hown5
  have hlo5 : ∀ b, b < T + 2 → w5.heap[b]? = w4.heap[b]? := fun b hb => hg5.block b (by omega) (fun e => by have e : b = T + 1 + 1 := Option.some.inj e; omega)
  have hs5 : T + 3 ≤ w5.heap.size := by have := hg5.size; omega
  have hO5 : Keep W w5 := ⟨hg5.tape.trans hK4.tape, hg5.os.trans hK4.os, hg5.output.trans hK4.output, Nat.le_trans hK4.size hg5.size, fun b hb _ => (hlo5 b (by omega)).trans (hK4.block b hb (by omega))⟩
  refine Run.up w5.heap.size ?_
  have hP5 := Cx.next_up (w' := w5) hX4 hg5.size
  have hN5 := hN4.trans hP5
  have hX5 := hN5.ok hX0
  have hnw5 : ∀ b, T + 2 ≤ b → ∀ o, ¬ (X4.up w5.heap.size).Sh (.cell ⟨b, o, none⟩) := hnw4
  have hU5 := hP5.free hX4 hU4
  have hT5 := hP5.free hX4 hT4
  have hF5 := hP5.free hX4 hF4
  have hbx5 : w5.heap[N0]? = some (.cells #[.int .i64 bi, .int .i64 bn] 31) := (hlo5 N0 (by omega)).trans hbx4
  have ht5 : TlAt T tl0 w5 := ht4.block (hlo5 T (by omega))
  have hu5 : TlAt (T + 1) tl0 w5 := hu4.block (hlo5 (T + 1) (by omega))
  generalize X4.up w5.heap.size = X5 at hP5 hN5 hX5 hnw5 hU5 hT5 hF5 ⊢
  clear hN4 hF4 hbx4 hX4 hst4 hrd4 hP5 hK4 ht4 hu4 hT4 hU4 hs4 hg5 hlo5 hown4 hnw4
  try walk_nrm
  obtain ⟨A5, cap5, rfl, -⟩ := hown5.steps
  have b0 := (cells2 hbx5).1
  have b1 := (cells2 hbx5).2
  have m1 := mk321
  have e1 := ev321
  repeat first
    | refine Run.seq ?_
    | refine Run.skip ?_
    | refine Run.regionEnd ?_
    | refine Run.block ?_
    | refine Run.inBlock ?_
    | (refine Run.region ?_; simp only [List.size_toArray, List.length_cons, List.length_nil, Nat.reduceAdd, Nat.zero_add, List.range, List.range.loop])
    | (refine Run.cond rfl ?_; simp only [if_true, if_false, Bool.false_eq_true, ↓reduceIte])
    | (refine Run.unwanted rfl rfl ?_; walk_nrm)
    | (refine Run.op0 rfl rfl (by k_ne) (fun d K hK => by go_simp; exact hK) (fun d => by first | (simp [go_sem, *] <;> fail) | fail) ?_; try w_num)
    | refine Run.ret ?_
    | refine Run.fin ?_
    | refine Run.exit rfl ?_
  refine Run.op w5 rfl rfl (by k_ne) (fun d K hK => by go_simp; exact hK) (fun d e he => by
    simp [go_sem, *] at he
    rcases he with he | he <;> (subst he; exact evL_free hF5)) ?_
  try w_num
  repeat first
    | refine Run.seq ?_
    | refine Run.skip ?_
    | refine Run.regionEnd ?_
    | refine Run.block ?_
    | refine Run.inBlock ?_
    | (refine Run.region ?_; simp only [List.size_toArray, List.length_cons, List.length_nil, Nat.reduceAdd, Nat.zero_add, List.range, List.range.loop])
    | (refine Run.cond rfl ?_; simp only [if_true, if_false, Bool.false_eq_true, ↓reduceIte])
    | (refine Run.unwanted rfl rfl ?_; walk_nrm)
    | (refine Run.op0 rfl rfl (by k_ne) (fun d K hK => by go_simp; exact hK) (fun d => by first | (simp [go_sem, *] <;> fail) | fail) ?_; try w_num)
    | refine Run.ret ?_
    | refine Run.fin ?_
    | refine Run.exit rfl ?_
  refine Run.op (w5.alloc (.cells #[.int .i64 bi, .int .i64 bn] 31)) rfl rfl (by k_ne) (fun d K hK => by go_simp; exact hK) (fun d e he => by simp [go_sem, *] at he) ?_
  try w_num
  obtain ⟨M, hM⟩ : ∃ M, w5.heap.size = M := ⟨_, rfl⟩
  have hbM : (w5.alloc (.cells #[.int .i64 bi, .int .i64 bn] 31)).heap[M]? = some (.cells #[.int .i64 bi, .int .i64 bn] 31) := by rw [← hM]; exact alloc_new w5 _
  have hO6 : Off w5.heap.size w5 (w5.alloc (.cells #[.int .i64 bi, .int .i64 bn] 31)) := Off.alloc _ w5 _
  have hs6 : (w5.alloc (.cells #[.int .i64 bi, .int .i64 bn] 31)).heap.size = M + 1 := by rw [World.size_alloc, hM]
  rw [hM] at hO6 hs5
  simp only [hM]
  generalize w5.alloc (.cells #[.int .i64 bi, .int .i64 bn] 31) = w6 at hbM hO6 hs6 ⊢
  refine Run.up w6.heap.size ?_
  have hP6 := Cx.next_up (w' := w6) hX5 (by omega)
  have hN6 := hN5.trans hP6
  have hX6 := hN6.ok hX0
  have hM6 : (X5.up w6.heap.size).free M := ⟨by rw [hN6.B]; omega, hX5.new M (by omega)⟩
  have hnw6 : ∀ b, T + 2 ≤ b → ∀ o, ¬ (X5.up w6.heap.size).Sh (.cell ⟨b, o, none⟩) := hnw5
  have hU6 := hP6.free hX5 hU5
  have hT6 := hP6.free hX5 hT5
  have hF6 := hP6.free hX5 hF5
  have hlo6 : ∀ b, b < M → w6.heap[b]? = w5.heap[b]? := fun b hb => hO6.block b (by omega) (by omega)
  have hO6' : Keep W w6 := hO5.keep (T := M) hO6 (by omega)
  have hown6 : Own2 w6 (T + 2) (.slice A5 xs.length cap5) xs := hown5.heap fun b hb => hlo6 b (by have := (World.ownsRow.lt hown5 b hb).2; omega)
  have hbx6 : w6.heap[N0]? = some (.cells #[.int .i64 bi, .int .i64 bn] 31) := (hlo6 N0 (by omega)).trans hbx5
  have ht6 : TlAt T tl0 w6 := ht5.block (hlo6 T (by omega))
  have hu6 : TlAt (T + 1) tl0 w6 := hu5.block (hlo6 (T + 1) (by omega))
  have hstM : StepsAt (some ⟨M, 0, none⟩) [(bi, bn)] w6 := fun _ => ⟨M, 0, rfl, by omega, fun j hj => by
    obtain rfl : j = 0 := by simpa using hj
    exact cells2 hbM⟩
  have hMb : ∀ b, (Value.slice A5 xs.length cap5).ownBlock = some b → b < M := fun b hb => by have := (World.ownsRow.lt hown5 b hb).2; omega
  generalize X5.up w6.heap.size = X6 at hP6 hN6 hX6 hM6 hnw6 hU6 hT6 hF6 ⊢
  clear hN5 hF5 hbx5 hX5 hP6 hO5 ht5 hu5 hT5 hU5 hlo6 hown5 hnw5 hO6 hbM m1 e1 b0 b1
  try walk_nrm
  repeat first
    | refine Run.seq ?_
    | refine Run.skip ?_
    | refine Run.regionEnd ?_
    | refine Run.block ?_
    | refine Run.inBlock ?_
    | (refine Run.region ?_; simp only [List.size_toArray, List.length_cons, List.length_nil, Nat.reduceAdd, Nat.zero_add, List.range, List.range.loop])
    | (refine Run.cond rfl ?_; simp only [if_true, if_false, Bool.false_eq_true, ↓reduceIte])
    | (refine Run.unwanted rfl rfl ?_; walk_nrm)
    | (refine Run.op0 rfl rfl (by k_ne) (fun d K hK => by go_simp; exact hK) (fun d => by first | (simp [go_sem, *] <;> fail) | fail) ?_; try w_num)
    | refine Run.ret ?_
    | refine Run.fin ?_
    | refine Run.exit rfl ?_
  refine Run.app2 (xs := xs) (ys := [(bi, bn)]) (c := 1) (base := T + 2) rfl rfl (by k_ne) _ _ rfl rfl rfl hown6 hstM (fun ar off e => by cases e; exact hM6) (fun b hb => by
    obtain ⟨h1, h2⟩ := World.ownsRow.lt hown6 b hb
    exact ⟨by rw [hN6.B]; omega, hnw6 b h1⟩) (by simp only [List.length_cons, List.length_nil]; omega) (by omega) (fun v7 w7 hown7 hg7 => ?_)
  have hlo7 : ∀ b, b < T + 2 → w7.heap[b]? = w6.heap[b]? := fun b hb => hg7.block b (by omega) (fun e => by have := (World.ownsRow.lt hown6 b e.symm).1; omega)
  have hs7 : M + 1 ≤ w7.heap.size := by have := hg7.size; omega
  have hO7 : Keep W w7 := ⟨hg7.tape.trans hO6'.tape, hg7.os.trans hO6'.os, hg7.output.trans hO6'.output, Nat.le_trans hO6'.size hg7.size, fun b hb _ => (hlo7 b (by omega)).trans (hO6'.block b hb (by omega))⟩
  refine Run.up w7.heap.size ?_
  have hP7 := Cx.next_up (w' := w7) hX6 hg7.size
  have hN7 := hN6.trans hP7
  have hX7 := hN7.ok hX0
  obtain ⟨A7, cap7, rfl, hst7, hA7⟩ := hown7.steps
  have hrd7 : (X6.up w7.heap.size).reads A7 := fun ar off e => by
    obtain ⟨h1, h2, h3⟩ := hA7 ar off e
    exact ⟨by rw [hN7.B]; omega, hnw6 ar h1⟩
  have hU7 := hP7.free hX6 hU6
  have hT7 := hP7.free hX6 hT6
  have hF7 := hP7.free hX6 hF6
  have hm7 : ∀ l : Loc, l.isMemory = false → (X6.up w7.heap.size).Sh l := fun l hl => hN7.sub l (hm0 l hl)
  have hbx7 : w7.heap[N0]? = some (.cells #[.int .i64 bi, .int .i64 bn] 31) := (hlo7 N0 (by omega)).trans hbx6
  have ht7 : TlAt T tl0 w7 := ht6.block (hlo7 T (by omega))
  have hu7 : TlAt (T + 1) tl0 w7 := hu6.block (hlo7 (T + 1) (by omega))
  have hna : ∀ ar off, A7 = some ⟨ar, off, none⟩ → ar ≠ T := fun ar off e => by have := (hA7 ar off e).1; omega
  generalize X6.up w7.heap.size = X7 at hP7 hN7 hX7 hrd7 hU7 hT7 hF7 hm7 ⊢
  clear hN6 hF6 hbx6 hX6 hP7 hO6' ht6 hu6 hT6 hU6 hlo7 hown6 hown7 hnw6 hM6 hstM hMb hg7 hA7
  try walk_nrm
  have hp7 : X7.Post = Post := hN7.post.trans hpost
  have hSp := spread_con (x := tl0) (xs ++ [(bi, bn)]) (sl := A7) (cap := cap7) (n := n) (by simp only [List.length_append, List.length_cons, List.length_nil]; omega) hX7 hm7 hT7 ht7 (fun c => by show w64 0 = 0; decide) hst7 hrd7 hna
  generalize (xs ++ [(bi, bn)]).length = L7 at hSp ⊢
  repeat first
    | refine Run.seq ?_
    | refine Run.skip ?_
    | refine Run.regionEnd ?_
    | refine Run.block ?_
    | refine Run.inBlock ?_
    | (refine Run.region ?_; simp only [List.size_toArray, List.length_cons, List.length_nil, Nat.reduceAdd, Nat.zero_add, List.range, List.range.loop])
    | (refine Run.cond rfl ?_; simp only [if_true, if_false, Bool.false_eq_true, ↓reduceIte])
    | (refine Run.unwanted rfl rfl ?_; walk_nrm)
    | (refine Run.op0 rfl rfl (by k_ne) (fun d K hK => by go_simp; exact hK) (fun d => by first | (simp [go_sem, *] <;> fail) | fail) ?_; try w_num)
    | refine Run.ret ?_
    | refine Run.fin ?_
    | refine Run.exit rfl ?_
  refine Run.con hSp rfl rfl (by k_ne) rfl (by first | (simp only [List.map_toArray, List.map_cons, List.map_nil]; done) | (simp only [List.map_toArray, List.map_cons, List.map_nil]; rfl)) (fun X8 v8 w8 hr => ?_)
  obtain ⟨n8, o8, h8⟩ := hr
  have hX8 := n8.ok hX7
  have hT8 := n8.free hX7 hT7
  have hU8 := n8.free hX7 hU7
  have hF8 := n8.free hX7 hF7
  have hp8 := n8.post.trans hp7
  have hd8 := n8.d
  have hbx8 : w8.heap[N0]? = some (.cells #[.int .i64 bi, .int .i64 bn] 31) := (o8.block N0 (by omega) (by omega)).trans hbx7
  have hu8 : TlAt (T + 1) tl0 w8 := hu7.block (o8.block (T + 1) (by omega) (by omega))
  have hO8 : Keep W w8 := hO7.keep o8 (by omega)
  have b0 := (cells2 hbx8).1
  have b1 := (cells2 hbx8).2
  clear hSp hX7 hT7 hU7 hF7 hbx7 hu7 ht7 hst7 hrd7 hna hm7 n8 o8 hp7
  by_cases hok : okStep bi bn = true
  · obtain ⟨x8, e8, rfl, ht8⟩ : ∃ x8 e8, v8 = .int .i64 e8 ∧ TlAt T x8 w8 := by
      rcases h8 with ⟨_, h1, h2⟩ | ⟨_, h1, h2⟩
      · exact ⟨_, _, h1, h2⟩
      · exact ⟨_, _, h1, h2⟩
    clear h8
    obtain ⟨c, rfl, hc⟩ : ∃ c : Nat, bi = (c : Int) ∧ c < 8 := by
      simp only [okStep, Bool.and_eq_true, decide_eq_true_eq] at hok
      exact ⟨bi.toNat, by omega, by omega⟩
    have hAd := add_yes (X := X8) hT8.1 ht8 hc hok
    clear ht8
    walk_nrm
    repeat first
      | refine Run.seq ?_
      | refine Run.skip ?_
      | refine Run.regionEnd ?_
      | refine Run.block ?_
      | refine Run.inBlock ?_
      | (refine Run.region ?_; simp only [List.size_toArray, List.length_cons, List.length_nil, Nat.reduceAdd, Nat.zero_add, List.range, List.range.loop])
      | (refine Run.cond rfl ?_; simp only [if_true, if_false, Bool.false_eq_true, ↓reduceIte])
      | (refine Run.unwanted rfl rfl ?_; walk_nrm)
      | (refine Run.op0 rfl rfl (by k_ne) (fun d K hK => by go_simp; exact hK) (fun d => by first | (simp [go_sem, *] <;> fail) | fail) ?_; try w_num)
      | refine Run.ret ?_
      | refine Run.fin ?_
      | refine Run.exit rfl ?_
      | ((refine Run.op w8 rfl rfl (by k_ne) (fun d K hK => by go_simp; exact hK) (fun d e he => by simp [go_sem, *] at he; subst he; exact evL_free hF8) ?_; try w_num))
    refine Run.con hAd rfl rfl (by k_ne) rfl (by first | (simp only [List.map_toArray, List.map_cons, List.map_nil]; done) | (simp only [List.map_toArray, List.map_cons, List.map_nil]; rfl)) (fun X9 v w9 hr => ?_)
    obtain ⟨rfl, rfl, -, a9⟩ := hr
    have hu9 : TlAt (T + 1) tl0 w9 := hu8.block (a9.block (T + 1) (by omega))
    have hO9 : Keep W w9 := hO8.keep (Off.of_aside a9) (by omega)
    have hMo := most_con hU8.1 hu9
    have hGe := get_zero hU8.1 hu9 (fun c => rfl) 0
    rw [show tl0.most = 0 from rfl] at hMo
    clear hAd hu8 hO8 a9 b0 b1
    walk_nrm
    repeat first
      | refine Run.seq ?_
      | refine Run.skip ?_
      | refine Run.regionEnd ?_
      | refine Run.block ?_
      | refine Run.inBlock ?_
      | (refine Run.region ?_; simp only [List.size_toArray, List.length_cons, List.length_nil, Nat.reduceAdd, Nat.zero_add, List.range, List.range.loop])
      | (refine Run.cond rfl ?_; simp only [if_true, if_false, Bool.false_eq_true, ↓reduceIte])
      | (refine Run.unwanted rfl rfl ?_; walk_nrm)
      | (refine Run.op0 rfl rfl (by k_ne) (fun d K hK => by go_simp; exact hK) (fun d => by first | (simp [go_sem, *] <;> fail) | fail) ?_; try w_num)
      | refine Run.ret ?_
      | refine Run.fin ?_
      | refine Run.exit rfl ?_
    refine Run.con hMo rfl rfl (by k_ne) rfl (by first | (simp only [List.map_toArray, List.map_cons, List.map_nil]; done) | (simp only [List.map_toArray, List.map_cons, List.map_nil]; rfl)) (fun X10 v w10 hr => ?_)
    obtain ⟨rfl, rfl, rfl⟩ := hr
    walk_nrm
    repeat first
      | refine Run.seq ?_
      | refine Run.skip ?_
      | refine Run.regionEnd ?_
      | refine Run.block ?_
      | refine Run.inBlock ?_
      | (refine Run.region ?_; simp only [List.size_toArray, List.length_cons, List.length_nil, Nat.reduceAdd, Nat.zero_add, List.range, List.range.loop])
      | (refine Run.cond rfl ?_; simp only [if_true, if_false, Bool.false_eq_true, ↓reduceIte])
      | (refine Run.unwanted rfl rfl ?_; walk_nrm)
      | (refine Run.op0 rfl rfl (by k_ne) (fun d K hK => by go_simp; exact hK) (fun d => by first | (simp [go_sem, *] <;> fail) | fail) ?_; try w_num)
      | refine Run.ret ?_
      | refine Run.fin ?_
      | refine Run.exit rfl ?_
    refine Run.con hGe rfl rfl (by k_ne) rfl (by first | (simp only [List.map_toArray, List.map_cons, List.map_nil]; done) | (simp only [List.map_toArray, List.map_cons, List.map_nil]; rfl)) (fun X11 v w11 hr => ?_)
    obtain ⟨rfl, rfl, rfl⟩ := hr
    walk_nrm
    repeat first
      | refine Run.seq ?_
      | refine Run.skip ?_
      | refine Run.regionEnd ?_
      | refine Run.block ?_
      | refine Run.inBlock ?_
      | (refine Run.region ?_; simp only [List.size_toArray, List.length_cons, List.length_nil, Nat.reduceAdd, Nat.zero_add, List.range, List.range.loop])
      | (refine Run.cond rfl ?_; simp only [if_true, if_false, Bool.false_eq_true, ↓reduceIte])
      | (refine Run.unwanted rfl rfl ?_; walk_nrm)
      | (refine Run.op0 rfl rfl (by k_ne) (fun d K hK => by go_simp; exact hK) (fun d => by first | (simp [go_sem, *] <;> fail) | fail) ?_; try w_num)
      | refine Run.ret ?_
      | refine Run.fin ?_
      | refine Run.exit rfl ?_
    exact Run.end1 hd8 rfl rfl Try.func6 rfl (by kernel_rfl) (hfin _ _ hp8 hO9)
  · have hok : okStep bi bn = false := by simpa using hok
    obtain ⟨rfl, ht8⟩ : v8 = .int .i64 1 ∧ TlAt T tl0 w8 := by
      rcases h8 with ⟨h0, _, _⟩ | ⟨_, h1, h2⟩
      · exfalso
        have := h0.2.2
        simp [bad, hok] at this
      · exact ⟨h1, h2⟩
    clear h8
    have hAd := add_no (X := X8) (w := w8) (T := T) hok
    have hMo := most_con hT8.1 ht8
    rw [show tl0.most = 0 from rfl] at hMo
    have hLp := fun (K : List Item) (hK) => apart_loop (N0 := N0) (K := K) hT8.1 hU8.1 ht8 hu8 (fun c => rfl) (fun c => rfl) hK 8 0 (by omega)
    simp only [loop6, Try.f6, Option.getD_some] at hLp
    have hfi := hfin X8 w8 hp8 hO8
    clear ht8 hu8 hbx8 hX8
    walk_nrm
    repeat first
      | refine Run.seq ?_
      | refine Run.skip ?_
      | refine Run.regionEnd ?_
      | refine Run.block ?_
      | refine Run.inBlock ?_
      | (refine Run.region ?_; simp only [List.size_toArray, List.length_cons, List.length_nil, Nat.reduceAdd, Nat.zero_add, List.range, List.range.loop])
      | (refine Run.cond rfl ?_; simp only [if_true, if_false, Bool.false_eq_true, ↓reduceIte])
      | (refine Run.unwanted rfl rfl ?_; walk_nrm)
      | (refine Run.op0 rfl rfl (by k_ne) (fun d K hK => by go_simp; exact hK) (fun d => by first | (simp [go_sem, *] <;> fail) | fail) ?_; try w_num)
      | refine Run.ret ?_
      | refine Run.fin ?_
      | refine Run.exit rfl ?_
      | ((refine Run.op w8 rfl rfl (by k_ne) (fun d K hK => by go_simp; exact hK) (fun d e he => by simp [go_sem, *] at he; subst he; exact evL_free hF8) ?_; try w_num))
    refine Run.con hAd rfl rfl (by k_ne) rfl (by first | (simp only [List.map_toArray, List.map_cons, List.map_nil]; done) | (simp only [List.map_toArray, List.map_cons, List.map_nil]; rfl)) (fun X9 v w9 hr => ?_)
    obtain ⟨rfl, rfl, rfl⟩ := hr
    walk_nrm
    repeat first
      | refine Run.seq ?_
      | refine Run.skip ?_
      | refine Run.regionEnd ?_
      | refine Run.block ?_
      | refine Run.inBlock ?_
      | (refine Run.region ?_; simp only [List.size_toArray, List.length_cons, List.length_nil, Nat.reduceAdd, Nat.zero_add, List.range, List.range.loop])
      | (refine Run.cond rfl ?_; simp only [if_true, if_false, Bool.false_eq_true, ↓reduceIte])
      | (refine Run.unwanted rfl rfl ?_; walk_nrm)
      | (refine Run.op0 rfl rfl (by k_ne) (fun d K hK => by go_simp; exact hK) (fun d => by first | (simp [go_sem, *] <;> fail) | fail) ?_; try w_num)
      | refine Run.ret ?_
      | refine Run.fin ?_
      | refine Run.exit rfl ?_
    refine Run.con hMo rfl rfl (by k_ne) rfl (by first | (simp only [List.map_toArray, List.map_cons, List.map_nil]; done) | (simp only [List.map_toArray, List.map_cons, List.map_nil]; rfl)) (fun X10 v w10 hr => ?_)
    obtain ⟨rfl, rfl, rfl⟩ := hr
    clear hAd hMo b0 b1
    walk_nrm
    repeat first
      | refine Run.seq ?_
      | refine Run.skip ?_
      | refine Run.regionEnd ?_
      | refine Run.block ?_
      | refine Run.inBlock ?_
      | (refine Run.region ?_; simp only [List.size_toArray, List.length_cons, List.length_nil, Nat.reduceAdd, Nat.zero_add, List.range, List.range.loop])
      | (refine Run.cond rfl ?_; simp only [if_true, if_false, Bool.false_eq_true, ↓reduceIte])
      | (refine Run.unwanted rfl rfl ?_; walk_nrm)
      | (refine Run.op0 rfl rfl (by k_ne) (fun d K hK => by go_simp; exact hK) (fun d => by first | (simp [go_sem, *] <;> fail) | fail) ?_; try w_num)
      | refine Run.ret ?_
      | refine Run.fin ?_
      | refine Run.exit rfl ?_
    refine Run.loop ?_
    refine hLp _ ?_ _ _ _ _ _ _ _ _ _ _ _ _ _ _ _ _ _ _ _ _ _ _ _ _ _ _ _ _ _ _ _ _ _ _ _ _ _ _ _ _ _ _ _ _ _ _ _ _ _ _ _ _ _ _ _ _ _ _ _ _ _
    intro y0 y1 y2 y3 y5 y9 y10 y12 y13 y14 y15 y16 y17 y18 y19 y20 y21 y22 y23 y24 y25 y26 y27 y28 y29 y30 y31 y32 y33 y34 y35 y36 y37 y38 y39 y40 y41 y42 y43 y44 y45 y46 y47 y48 y49 y50 y51 y52 y53 y54 y55 y56 y57 y58 y59 y60 y61 y62 y63 y64 y65
    repeat first
      | refine Run.seq ?_
      | refine Run.skip ?_
      | refine Run.regionEnd ?_
      | refine Run.block ?_
      | refine Run.inBlock ?_
      | (refine Run.region ?_; simp only [List.size_toArray, List.length_cons, List.length_nil, Nat.reduceAdd, Nat.zero_add, List.range, List.range.loop])
      | (refine Run.cond rfl ?_; simp only [if_true, if_false, Bool.false_eq_true, ↓reduceIte])
      | (refine Run.unwanted rfl rfl ?_; walk_nrm)
      | (refine Run.op0 rfl rfl (by k_ne) (fun d K hK => by go_simp; exact hK) (fun d => by first | (simp [go_sem, *] <;> fail) | fail) ?_; try w_num)
      | refine Run.ret ?_
      | refine Run.fin ?_
      | refine Run.exit rfl ?_
    exact Run.end1 hd8 rfl rfl Try.func6 rfl (by kernel_rfl) hfi
end Go.Proofs.Ytboiolnnhmlieaa.Gang
