
/-
  TallyTickets: its walk. Arguments of Tally's laws: a script.
  Conditions: stated lemma by lemma.
-/
import Derived.Test.YtboiolnnhmlieaaGc28
import Derived.Test.YtboiolnnhmlieaaKfo
import Derived.Conc.HoldsTime
namespace Go.Proofs.Ytboiolnnhmlieaa.Gang
open Go.Conc Go.ConcN Go.RowKit Go.Conc.Lib Go.ConcR.Gen Go.ConcN.Gen
set_option linter.unusedVariables false
set_option linter.unusedSimpArgs false
set_option maxRecDepth 100000 in
set_option maxHeartbeats 8000000 in
theorem tickets_run {Post : Value → World → Prop} {W : World} (hP : ∀ w', Off W.heap.size W w' → Post (.bool true) w') (ds : List DoV) {sl : Option Addr} {cap : Nat} (hlen : ds.length ≤ 4611686018427387904) (hDs : DosAt sl ds W) (hsl : ∀ ar off, sl = some ⟨ar, off, none⟩ → ar < W.heap.size) :
    Run Try.prog (top Post W) (G ((base 5).at ⟨#[.slice sl ds.length cap, undef, undef, undef, undef, undef, undef, undef, undef, undef, undef, undef, undef, undef, undef, undef, undef, undef, undef, undef, undef, undef, undef, undef, undef, undef, undef, undef, undef, undef, undef, undef, undef, undef, undef, undef, undef, undef, undef, undef, undef, undef, undef, undef, undef, undef, undef, undef, undef, undef, undef, undef, undef, undef, undef, undef, undef, undef, undef, undef, undef, undef, undef, undef, undef, undef, undef, undef, undef, undef, undef, undef, undef, undef, undef, undef, undef, undef, undef, undef, undef, undef], []⟩ [.code (Try.f5.body.getD .skip)]) []) W := by
  have hX0 := top_ok Post W
  have hm0 := top_mem Post W
  have hpost : (top Post W).Post = Post := rfl
  have hrd0 : (top Post W).reads sl := fun ar off e => top_free Post (hsl ar off e)
  generalize top Post W = X0 at hX0 hm0 hpost hrd0 ⊢
  simp only [Try.f5, Option.getD_some]
  repeat first
    | refine Run.seq ?_
    | refine Run.skip ?_
    | refine Run.regionEnd ?_
    | refine Run.block ?_
    | refine Run.inBlock ?_
    | (refine Run.region ?_; simp only [List.size_toArray, List.length_cons, List.length_nil, Nat.reduceAdd, Nat.zero_add, List.range, List.range.loop])
    | (refine Run.cond rfl ?_; simp only [if_true, if_false, Bool.false_eq_true, ↓reduceIte])
    | (refine Run.unwanted rfl rfl ?_; walk_nrm)
    | (refine Run.op0 rfl rfl (by k_ne) (fun d K hK => by go_simp; exact hK) (fun d => by first | (simp [go_sem, *] <;> fail) | fail) ?_; try w_num)
    | refine Run.ret ?_
    | refine Run.fin ?_
    | refine Run.exit rfl ?_
  refine Run.con (awake_con hX0 hm0) rfl rfl (by k_ne) rfl (by first | (simp only [List.map_toArray, List.map_cons, List.map_nil]; done) | (simp only [List.map_toArray, List.map_cons, List.map_nil]; rfl)) (fun X1 v w1 hr => ?_)
  obtain ⟨hN1, hK1, rfl⟩ := hr
  have hX1 := hN1.ok hX0
  walk_nrm
  have hD1 : DosAt sl ds w1 := hDs.keep hK1.size (fun ar off e h => hK1.block ar h (by omega))
  have hrd1 : X1.reads sl := fun ar off e => hN1.free hX0 (hrd0 ar off e)
  obtain ⟨T, hTd⟩ : ∃ T, w1.heap.size = T := ⟨_, rfl⟩
  have hTW : W.heap.size ≤ T := by have := hK1.size; omega
  clear hDs hrd0
  repeat first
    | refine Run.seq ?_
    | refine Run.skip ?_
    | refine Run.regionEnd ?_
    | refine Run.block ?_
    | refine Run.inBlock ?_
    | (refine Run.region ?_; simp only [List.size_toArray, List.length_cons, List.length_nil, Nat.reduceAdd, Nat.zero_add, List.range, List.range.loop])
    | (refine Run.cond rfl ?_; simp only [if_true, if_false, Bool.false_eq_true, ↓reduceIte])
    | (refine Run.unwanted rfl rfl ?_; walk_nrm)
    | (refine Run.op0 rfl rfl (by k_ne) (fun d K hK => by go_simp; exact hK) (fun d => by first | (simp [go_sem, *] <;> fail) | fail) ?_; try w_num)
    | refine Run.ret ?_
    | refine Run.fin ?_
    | refine Run.exit rfl ?_
  refine Run.con (new_con hX1) rfl rfl (by k_ne) rfl (by first | (simp only [List.map_toArray, List.map_cons, List.map_nil]; done) | (simp only [List.map_toArray, List.map_cons, List.map_nil]; rfl)) (fun X2 v w2 hr => ?_)
  obtain ⟨rfl, rfl, hO2, hs2, ht2⟩ := hr
  rw [hTd] at ht2 hs2
  simp only [hTd]
  have hP2 := Cx.next_up (w' := w2) hX1 (by omega)
  have hN2 := hN1.trans hP2
  have hX2 := hN2.ok hX0
  have hT2 : (X1.up w2.heap.size).free T := ⟨by rw [hN2.B]; omega, hX1.new T (by omega)⟩
  have hrd2 : (X1.up w2.heap.size).reads sl := fun ar off e => hP2.free hX1 (hrd1 ar off e)
  have hK2 := hK1.keep hO2 hK1.size
  have hD2 : DosAt sl ds w2 := hD1.keep hO2.size (fun ar off e h => hO2.block ar h (by omega))
  generalize X1.up w2.heap.size = X2 at hP2 hN2 hX2 hT2 hrd2 ⊢
  clear hN1 hK1 hX1 hD1 hrd1 hP2 hO2
  try walk_nrm
  repeat first
    | refine Run.seq ?_
    | refine Run.skip ?_
    | refine Run.regionEnd ?_
    | refine Run.block ?_
    | refine Run.inBlock ?_
    | (refine Run.region ?_; simp only [List.size_toArray, List.length_cons, List.length_nil, Nat.reduceAdd, Nat.zero_add, List.range, List.range.loop])
    | (refine Run.cond rfl ?_; simp only [if_true, if_false, Bool.false_eq_true, ↓reduceIte])
    | (refine Run.unwanted rfl rfl ?_; walk_nrm)
    | (refine Run.op0 rfl rfl (by k_ne) (fun d K hK => by go_simp; exact hK) (fun d => by first | (simp [go_sem, *] <;> fail) | fail) ?_; try w_num)
    | refine Run.ret ?_
    | refine Run.fin ?_
    | refine Run.exit rfl ?_
  refine Run.con (new_con hX2) rfl rfl (by k_ne) rfl (by first | (simp only [List.map_toArray, List.map_cons, List.map_nil]; done) | (simp only [List.map_toArray, List.map_cons, List.map_nil]; rfl)) (fun X3 v w3 hr => ?_)
  obtain ⟨rfl, rfl, hO3, hs3, hu3⟩ := hr
  rw [hs2] at hu3 hs3
  simp only [hs2]
  have hP3 := Cx.next_up (w' := w3) hX2 (by omega)
  have hN3 := hN2.trans hP3
  have hX3 := hN3.ok hX0
  have hU3 : (X2.up w3.heap.size).free (T + 1) := ⟨by rw [hN3.B]; omega, hX2.new (T + 1) (by omega)⟩
  have hT3 := hP3.free hX2 hT2
  have hrd3 : (X2.up w3.heap.size).reads sl := fun ar off e => hP3.free hX2 (hrd2 ar off e)
  have hK3 := hK2.keep hO3 hK2.size
  have hD3 : DosAt sl ds w3 := hD2.keep hO3.size (fun ar off e h => hO3.block ar h (by omega))
  have ht3 : TlAt T tl0 w3 := by
    unfold TlAt TalAt at ht2 ⊢
    rw [hO3.block T (by omega) (by omega)]
    exact ht2
  have hu3 : TlAt (T + 1) tl0 w3 := hu3
  have hm3 : ∀ l : Loc, l.isMemory = false → (X2.up w3.heap.size).Sh l := fun l hl => hN3.sub l (hm0 l hl)
  have hp3 := hN3.post.trans hpost
  generalize X2.up w3.heap.size = X3 at hP3 hN3 hX3 hT3 hU3 hrd3 hm3 hp3 ⊢
  clear hX2 hT2 hrd2 hK2 hD2 hP3 hO3 ht2
  try walk_nrm
  have hI : TkI X3 w3 T X3 w3 tl0 0 0 := ⟨⟨rfl, hX3.hears, hN3.B, fun _ h => .inl h, fun _ h => h, Nat.le_refl _⟩, Off.refl _ _, ht3, rfl, by omega, by omega⟩
  have hLp := fun (K : List Item) hK => tk_loop (ds := ds) (sl := sl) (cap := cap) (T := T) (U := T + 1) (K := K) hlen hX3 hm3 hT3 (by omega) hD3 hrd3 (fun ar off e => by have := hsl ar off e; omega) (min ds.length 100) 0 (by omega) X3 w3 tl0 0 hI hK
  simp only [lin5, Try.f5, Option.getD_some] at hLp
  replace hLp := Lib.hid hLp
  clear hD3 hrd3 ht3 hI hm3
  repeat first
    | refine Run.seq ?_
    | refine Run.skip ?_
    | refine Run.regionEnd ?_
    | refine Run.block ?_
    | refine Run.inBlock ?_
    | (refine Run.region ?_; simp only [List.size_toArray, List.length_cons, List.length_nil, Nat.reduceAdd, Nat.zero_add, List.range, List.range.loop])
    | (refine Run.cond rfl ?_; simp only [if_true, if_false, Bool.false_eq_true, ↓reduceIte])
    | (refine Run.unwanted rfl rfl ?_; walk_nrm)
    | (refine Run.op0 rfl rfl (by k_ne) (fun d K hK => by go_simp; exact hK) (fun d => by first | (simp [go_sem, *] <;> fail) | fail) ?_; try w_num)
    | refine Run.ret ?_
    | refine Run.fin ?_
    | refine Run.exit rfl ?_
  refine Run.loop ?_
  refine hLp.out _ ?_ _ _ _ _ _ _ _ _ _ _ _ _ _ _ _ _ _ _ _ _ _ _ _ _ _ _ _ _ _ _ _ _ _ _ _ _ _ _ _ _ _ _ _ _ _ _ _ _ _ _ _ _ _ _ _ _ _ _ _ _ _ _ _ _ _ _ _ _ _ _ _ _ _ _ _ _
  clear hLp
  intro X4 w4 x4 p4 k4 y1 y7 y8 y9 y10 y11 y12 y13 y14 y15 y16 y17 y18 y19 y20 y21 y22 y23 y24 y25 y26 y27 y28 y29 y30 y31 y32 y33 y34 y35 y36 y37 y38 y39 y40 y41 y42 y43 y44 y45 y46 y47 y48 y49 y50 y51 y52 y53 y54 y55 y56 y57 y58 y59 y60 y61 y62 y63 y64 y65 y66 y67 y68 y69 y70 y71 y72 y73 y74 y75 y76 y77 y78 y79 y80 y81 I
  have hX4 := I.next.ok hX3
  have hU4 := I.next.free hX3 hU3
  have hu4 : TlAt (T + 1) tl0 w4 := by
    unfold TlAt TalAt at hu3 ⊢
    rw [I.off.block (T + 1) (by omega) (by omega)]
    exact hu3
  have hK4 := hK3.keep I.off (by omega)
  have hp4 := I.next.post.trans hp3
  have hs4 : T + 1 < w4.heap.size := by have := I.off.size; omega
  have hTk := ticket_con hU4.1 hu4
  clear I hX3 hU3 hu3 hK3 hp3 hT3 hN2 hN3 hs3 hs2
  repeat first
    | refine Run.seq ?_
    | refine Run.skip ?_
    | refine Run.regionEnd ?_
    | refine Run.block ?_
    | refine Run.inBlock ?_
    | (refine Run.region ?_; simp only [List.size_toArray, List.length_cons, List.length_nil, Nat.reduceAdd, Nat.zero_add, List.range, List.range.loop])
    | (refine Run.cond rfl ?_; simp only [if_true, if_false, Bool.false_eq_true, ↓reduceIte])
    | (refine Run.unwanted rfl rfl ?_; walk_nrm)
    | (refine Run.op0 rfl rfl (by k_ne) (fun d K hK => by go_simp; exact hK) (fun d => by first | (simp [go_sem, *] <;> fail) | fail) ?_; try w_num)
    | refine Run.ret ?_
    | refine Run.fin ?_
    | refine Run.exit rfl ?_
  refine Run.con hTk rfl rfl (by k_ne) rfl (by first | (simp only [List.map_toArray, List.map_cons, List.map_nil]; done) | (simp only [List.map_toArray, List.map_cons, List.map_nil]; rfl)) (fun X5 v w5 hr => ?_)
  obtain ⟨rfl, rfl, hu5, a5⟩ := hr
  have hX5 : X5.ok w5 := ⟨hX4.hears, fun b hb => hX4.new b (by rw [a5.size] at hb; exact hb), by rw [a5.size]; exact hX4.low⟩
  have hK5 := hK4.keep (Off.of_aside a5) (by omega)
  rw [show w64 (tl0.tick + 1) = 1 by decide] at hu5
  rw [show w64 (tl0.tick + 1) = 1 by decide]
  have hs5 : T + 1 < w5.heap.size := by rw [a5.size]; exact hs4
  clear hTk hu4 a5 hK4 hX4 hs4
  have hF1 := first_new (n := 5) hX5 hU4 hs5 hu5 rfl
  walk_nrm
  repeat first
    | refine Run.seq ?_
    | refine Run.skip ?_
    | refine Run.regionEnd ?_
    | refine Run.block ?_
    | refine Run.inBlock ?_
    | (refine Run.region ?_; simp only [List.size_toArray, List.length_cons, List.length_nil, Nat.reduceAdd, Nat.zero_add, List.range, List.range.loop])
    | (refine Run.cond rfl ?_; simp only [if_true, if_false, Bool.false_eq_true, ↓reduceIte])
    | (refine Run.unwanted rfl rfl ?_; walk_nrm)
    | (refine Run.op0 rfl rfl (by k_ne) (fun d K hK => by go_simp; exact hK) (fun d => by first | (simp [go_sem, *] <;> fail) | fail) ?_; try w_num)
    | refine Run.ret ?_
    | refine Run.fin ?_
    | refine Run.exit rfl ?_
  refine Run.con hF1 rfl rfl (by k_ne) rfl (by first | (simp only [List.map_toArray, List.map_cons, List.map_nil]; done) | (simp only [List.map_toArray, List.map_cons, List.map_nil]; rfl)) (fun X6 v w6 hr => ?_)
  obtain ⟨rfl, rfl, hu6, o6⟩ := hr
  have hn6 := Cx.next_up (w' := w6) hX5 o6.size
  have hX6 := hn6.ok hX5
  have hU6 := hn6.free hX5 hU4
  have hK6 := hK5.keep o6 (by omega)
  have hF2 := first_old (n := 6) hX6 hU6 (by have := o6.size; omega) hu6 rfl
  have hp6 : (X5.up w6.heap.size).Post = Post := hp4
  generalize X5.up w6.heap.size = X6 at hn6 hX6 hU6 hF2 hp6 ⊢
  clear hF1 hu5 hK5 hX5 hn6
  walk_nrm
  repeat first
    | refine Run.seq ?_
    | refine Run.skip ?_
    | refine Run.regionEnd ?_
    | refine Run.block ?_
    | refine Run.inBlock ?_
    | (refine Run.region ?_; simp only [List.size_toArray, List.length_cons, List.length_nil, Nat.reduceAdd, Nat.zero_add, List.range, List.range.loop])
    | (refine Run.cond rfl ?_; simp only [if_true, if_false, Bool.false_eq_true, ↓reduceIte])
    | (refine Run.unwanted rfl rfl ?_; walk_nrm)
    | (refine Run.op0 rfl rfl (by k_ne) (fun d K hK => by go_simp; exact hK) (fun d => by first | (simp [go_sem, *] <;> fail) | fail) ?_; try w_num)
    | refine Run.ret ?_
    | refine Run.fin ?_
    | refine Run.exit rfl ?_
  refine Run.con hF2 rfl rfl (by k_ne) rfl (by first | (simp only [List.map_toArray, List.map_cons, List.map_nil]; done) | (simp only [List.map_toArray, List.map_cons, List.map_nil]; rfl)) (fun X7 v w7 hr => ?_)
  obtain ⟨rfl, rfl, -, o7⟩ := hr
  have hK7 := hK6.keep o7 (by omega)
  have hd7 : (X6.up w7.heap.size).d = 0 := hX6.hears
  have hfi : ∀ w₁, AtRel w7 w₁ → (X6.up w7.heap.size).Post (.bool true) w₁ := fun w₁ h₁ => by
    obtain ⟨d, rfl⟩ := h₁
    show X6.Post _ _
    rw [hp6]
    exact hP _ ⟨hK7.tape, hK7.os, hK7.output, hK7.size, hK7.block⟩
  clear hF2 hu6 hK6 hX6 o6 o7 hK7
  walk_nrm
  repeat first
    | refine Run.seq ?_
    | refine Run.skip ?_
    | refine Run.regionEnd ?_
    | refine Run.block ?_
    | refine Run.inBlock ?_
    | (refine Run.region ?_; simp only [List.size_toArray, List.length_cons, List.length_nil, Nat.reduceAdd, Nat.zero_add, List.range, List.range.loop])
    | (refine Run.cond rfl ?_; simp only [if_true, if_false, Bool.false_eq_true, ↓reduceIte])
    | (refine Run.unwanted rfl rfl ?_; walk_nrm)
    | (refine Run.op0 rfl rfl (by k_ne) (fun d K hK => by go_simp; exact hK) (fun d => by first | (simp [go_sem, *] <;> fail) | fail) ?_; try w_num)
    | refine Run.ret ?_
    | refine Run.fin ?_
    | refine Run.exit rfl ?_
  exact Run.end1 hd7 rfl rfl Try.func5 rfl (by kernel_rfl) hfi
end Go.Proofs.Ytboiolnnhmlieaa.Gang
namespace Go.Proofs.Ytboiolnnhmlieaa.Gang
open Go.Proofs.Ytboiolnnhmlieaa Go.Proofs.Ytboiolnnhmlieaa.Gang
open Go.Conc Go.ConcM Go.ConcN Go.ChangeShapes Go.WideShapes Go.ChangeAt Go.RowKit Go.Deep
set_option linter.unusedVariables false
instance : Inhabited DoV := ⟨⟨0, 0, 0, none, 0, [], 0, 0⟩⟩
set_option maxRecDepth 100000 in
theorem leaf_steps {H : Type} {enc : TypeId × Value → H} {w : World} {base : Nat} {held : Bool} {ts : List TypeId} {vs : List Value} (h : Leaf enc Try.prog w base (fun _ => true) held (32 :: ts) vs) :
    ∃ A xs cap vs', vs = .slice A (List.length xs) cap :: vs' ∧ List.length xs ≤ 4611686018427387904 ∧ StepsAt A xs w ∧ Leaf enc Try.prog w base (fun _ => true) held ts vs' := by
  cases vs with
  | nil => simp [Leaf] at h
  | cons v vs =>
    obtain ⟨⟨m, y, hy, hw'⟩, hr⟩ := h
    obtain ⟨A, len, cap, e1, h1, _, h2, h4⟩ := open_elems (n := 2) (ts := [3, 2]) Try.underlying32 (by kernel_rfl) (by kernel_rfl) (by simp) hy hw'
    injection e1 with e1
    subst e1
    have hx : ∀ i, i < cap → ∃ x : Int × Int, ∃ b off, A = some ⟨b, off, none⟩ ∧ b < w.heap.size ∧ w.cell? ⟨b, off + i * 2, none⟩ = some (.int .i64 x.1) ∧ w.cell? ⟨b, off + i * 2 + 1, none⟩ = some (.int .i64 x.2) := fun i hi => by
      obtain ⟨b, off, vs, rfl, hb, _, hc, hl⟩ := h4 i hi
      obtain ⟨k, vs1, rfl, _, hl⟩ := leaf_int Try.underlying3 hl
      obtain ⟨n, vs2, rfl, hn, hl⟩ := leaf_int Try.underlying2 hl
      have g0 := hc 0 _ rfl
      have g1 := hc 1 _ rfl
      exact ⟨(k, n), b, off, rfl, hb, g0, g1⟩
    refine ⟨A, (List.range len).map fun i => if hi : i < cap then (hx i hi).choose else default, cap, vs, by simp, by rw [show Try.prog.bytesOf 31 = 16 from by kernel_rfl] at h2; unfold reachBytes at h2; simp; omega, fun hne => ?_, hr⟩
    have hlen : 0 < len := by
      rcases Nat.eq_zero_or_pos len with e | e
      · subst e; simp at hne
      · exact e
    obtain ⟨b, off, e, hb, _⟩ := (hx 0 (by omega)).choose_spec
    refine ⟨b, off, e, hb, fun i hi => ?_⟩
    have hi' : i < len := by simpa using hi
    obtain ⟨b', off', e', hb', g0, g1⟩ := (hx i (by omega)).choose_spec
    rw [e] at e'
    cases e'
    simp only [List.getElem_map, List.getElem_range]
    rw [dif_pos (show i < cap by omega)]
    exact ⟨g0, g1⟩
set_option maxRecDepth 100000 in
theorem dos_arg {H : Type} {enc : TypeId × Value → H} {w : World} {base b0 : Nat} {held : Bool} {v : Value} {d : DataW H} {p : List MemPlace}
    (hv : Value.okWide Try.prog w .any b0 22 v) (h : DataW.Trod enc Try.prog w base (fun _ => true) held 22 v d p) (hw : (d.weights Try.prog 22).all (· ≤ reachBytes) = true) :
    ∃ sl ds cap, v = .slice sl (List.length ds) cap ∧ List.length ds ≤ 4611686018427387904 ∧ DosAt sl ds w ∧ (∀ ar off, sl = some ⟨ar, off, none⟩ → ar < w.heap.size) ∧ ∀ x ∈ ds, StepsAt x.sl x.steps w ∧ x.steps.length ≤ 4611686018427387904 := by
  obtain ⟨A, len, cap, rfl, h1, _, h2, h4⟩ := open_arg_slice (n := 3) (ts := [3, 3, 2, 32, 3, 3]) Try.underlying22 (by kernel_rfl) (by kernel_rfl) (by simp) hv h hw
  have hx : ∀ i, i < cap → ∃ x : DoV, (∃ b off, A = some ⟨b, off, none⟩ ∧ b < w.heap.size ∧ w.cell? ⟨b, off + i * 6, none⟩ = some (.int .i64 x.kind) ∧ w.cell? ⟨b, off + i * 6 + 1, none⟩ = some (.int .i64 x.slot) ∧ w.cell? ⟨b, off + i * 6 + 2, none⟩ = some (.int .i64 x.num) ∧
      w.cell? ⟨b, off + i * 6 + 3, none⟩ = some (.slice x.sl x.steps.length x.cap) ∧ w.cell? ⟨b, off + i * 6 + 4, none⟩ = some (.int .i64 x.workers) ∧ w.cell? ⟨b, off + i * 6 + 5, none⟩ = some (.int .i64 x.each)) ∧ StepsAt x.sl x.steps w ∧ x.steps.length ≤ 4611686018427387904 := fun i hi => by
    obtain ⟨b, off, vs, rfl, hb, _, hc, hl⟩ := h4 i hi
    obtain ⟨kd, vs1, rfl, _, hl⟩ := leaf_int Try.underlying3 hl
    obtain ⟨st, vs2, rfl, _, hl⟩ := leaf_int Try.underlying3 hl
    obtain ⟨nm, vs3, rfl, _, hl⟩ := leaf_int Try.underlying2 hl
    obtain ⟨S, xs, c, vs4, rfl, hxl, hxs, hl⟩ := leaf_steps hl
    obtain ⟨wk, vs5, rfl, _, hl⟩ := leaf_int Try.underlying3 hl
    obtain ⟨ea, vs6, rfl, _, hl⟩ := leaf_int Try.underlying3 hl
    exact ⟨⟨kd, st, nm, S, c, xs, wk, ea⟩, ⟨b, off, rfl, hb, hc 0 _ rfl, hc 1 _ rfl, hc 2 _ rfl, hc 3 _ rfl, hc 4 _ rfl, hc 5 _ rfl⟩, hxs, hxl⟩
  refine ⟨A, (List.range len).map fun i => if hi : i < cap then (hx i hi).choose else default, cap, by simp, by rw [show Try.prog.bytesOf 34 = 64 from by kernel_rfl] at h2; unfold reachBytes at h2; simp; omega, fun hne => ?_, fun ar off e => ?_, fun x hxm => ?_⟩
  · have hlen : 0 < len := by
      rcases Nat.eq_zero_or_pos len with e | e
      · subst e; simp at hne
      · exact e
    obtain ⟨⟨b, off, e, hb, _⟩, _⟩ := (hx 0 (by omega)).choose_spec
    refine ⟨b, off, e, hb, fun i hi => ?_⟩
    have hi' : i < len := by simpa using hi
    obtain ⟨⟨b', off', e', hb', g0, g1, g2, g3, g4, g5⟩, _⟩ := (hx i (by omega)).choose_spec
    rw [e] at e'
    cases e'
    simp only [List.getElem_map, List.getElem_range]
    rw [dif_pos (show i < cap by omega)]
    exact ⟨g0, g1, g2, g3, g4, g5⟩
  · subst e
    unfold Value.okWide at hv
    rw [Try.underlying22] at hv
    unfold Cell.okWide Cell.ok at hv
    rw [Try.underlying22] at hv
    obtain ⟨_, _, _, _, row, cells, hs, _⟩ := hv
    unfold World.shape? at hs
    cases hh : w.heap[ar]? with
    | none => rw [hh] at hs; cases hs
    | some o => exact (Array.getElem?_eq_some_iff.1 hh).1
  · obtain ⟨i, hi, rfl⟩ := List.mem_map.1 hxm
    have hi' := List.mem_range.1 hi
    rw [dif_pos (show i < cap by omega)]
    exact (hx i (by omega)).choose_spec.2
end Go.Proofs.Ytboiolnnhmlieaa.Gang
