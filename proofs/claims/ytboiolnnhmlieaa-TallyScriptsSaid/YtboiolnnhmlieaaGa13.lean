
/-
  A member's way through (*sync.WaitGroup).Done, as a deferred call.
  Conditions: stated lemma by lemma.
-/
import Derived.Test.YtboiolnnhmlieaaGa11
namespace Go.Proofs.Ytboiolnnhmlieaa.Gang
open Go.Conc Go.ConcN Go.RowKit Go.Conc.Lib Go.ConcR.Gen Go.ConcN.Gen
open Go.ConcR (wgBlock WgAt stA smA rd wr KK)
set_option linter.unusedVariables false
set_option linter.unusedSimpArgs false

section
variable {X Lam : Type} {P : Program} {J : Job P X Lam} {b₀ : Frame} {a₀ : Act} {ops₀ : Array Oper} {i₀ : Nat} {rest₀ : List Nat} {k₀ : List Item} {cs : List Frame} {w : World} {L : WgLink}
variable {i : Nat}
set_option maxRecDepth 100000 in
set_option maxHeartbeats 8000000 in
theorem doneNeg (F : J.Grp) (H : WgLib P L) {c : Frame} (hi : (i == 0) = false) (hty : J.ty = L.tWg) (hw : liveAt J.ty J.Wg w) (hcm : c.mode = .returning) (hT : Qs P 0 (G c cs)) :
    J.W i .rel (G ((baseD L.done).at ⟨#[.pointer (some ⟨J.Wg, 0, none⟩), undef, undef, undef], []⟩ [.code (body_done L)]) (c :: cs)) w := by
  lib_facts
  have q0 : (Pos.rel : Pos Lam).quit = false := rfl
  have q1 : (Pos.k1 : Pos Lam).quit = false := rfl
  have q2 : (Pos.d1 : Pos Lam).quit = false := rfl
  have q3 : (Pos.d2 : Pos Lam).quit = false := rfl
  have q4 : (Pos.d3 : Pos Lam).quit = false := rfl
  have q5 : (Pos.d4 : Pos Lam).quit = false := rfl
  simp only [body_done, doneFn, Option.getD_some]
  repeat first
    | refine W.seq q0 ?_
    | refine W.skip q0 ?_
    | refine W.regionEnd q0 ?_
    | refine W.block q0 ?_
    | refine W.inBlock q0 ?_
    | (refine W.region q0 ?_; simp only [List.size_toArray, List.length_cons, List.length_nil, Nat.reduceAdd, Nat.zero_add, List.range, List.range.loop])
    | (refine W.cond q0 rfl ?_; simp only [if_true, if_false, Bool.false_eq_true, ↓reduceIte])
    | (refine W.unwanted q0 rfl rfl ?_; walk_nrm)
    | (refine W.opk q0 rfl rfl (by k_ne) (fun w₁ h₁ K hK => by go_simp; exact hK) (fun w₁ h₁ => by simp [go_sem, *]) ?_; try w_num)
    | refine W.ret q0 ?_
    | (refine W.call q0 rfl rfl (by k_ne) rfl H.f_uAdd (nm_uAdd L) rfl ?_; walk_nrmf uAddFn)
    | (refine W.call q0 rfl rfl (by k_ne) rfl H.f_uLoad (nm_uLoad L) rfl ?_; walk_nrmf uLoadFn)
    | (refine W.call q0 rfl rfl (by k_ne) rfl H.f_uStore (nm_uStore L) rfl ?_; walk_nrmf uStoreFn)
    | (refine W.call q0 rfl rfl (by k_ne) rfl H.f_uCas (nm_uCas L) rfl ?_; walk_nrmf uCasFn)
    | (refine W.leave1 q0 rfl rfl H.f_uAdd rfl ?_; walk_nrm)
    | (refine W.leave1 q0 rfl rfl H.f_uLoad rfl ?_; walk_nrm)
    | (refine W.leave0 q0 rfl rfl H.f_uStore rfl ?_; walk_nrm)
    | (refine W.leave1 q0 rfl rfl H.f_uCas rfl ?_; walk_nrm)
    | (refine W.defer q0 rfl rfl (by k_ne) rfl ?_; walk_nrm)
    | (refine W.idle rfl (fun _ => stepG_entry_pure (.bool false) rfl rfl (by k_ne) rfl H.f_inBubble (x_inBubble_n L) (x_inBubble_b L) (x_inBubble_x L) (x_inBubble_f L)) q0 ?_; walk_nrm)
  refine W.call q0 rfl rfl (by k_ne) rfl H.f_add (nm_add L) rfl ?_
  walk_nrmf addFn
  repeat first
    | refine W.seq q0 ?_
    | refine W.skip q0 ?_
    | refine W.regionEnd q0 ?_
    | refine W.block q0 ?_
    | refine W.inBlock q0 ?_
    | (refine W.region q0 ?_; simp only [List.size_toArray, List.length_cons, List.length_nil, Nat.reduceAdd, Nat.zero_add, List.range, List.range.loop])
    | (refine W.cond q0 rfl ?_; simp only [if_true, if_false, Bool.false_eq_true, ↓reduceIte])
    | (refine W.unwanted q0 rfl rfl ?_; walk_nrm)
    | (refine W.opk q0 rfl rfl (by k_ne) (fun w₁ h₁ K hK => by go_simp; exact hK) (fun w₁ h₁ => by simp [go_sem, *]) ?_; try w_num)
    | refine W.ret q0 ?_
    | (refine W.call q0 rfl rfl (by k_ne) rfl H.f_uAdd (nm_uAdd L) rfl ?_; walk_nrmf uAddFn)
    | (refine W.call q0 rfl rfl (by k_ne) rfl H.f_uLoad (nm_uLoad L) rfl ?_; walk_nrmf uLoadFn)
    | (refine W.call q0 rfl rfl (by k_ne) rfl H.f_uStore (nm_uStore L) rfl ?_; walk_nrmf uStoreFn)
    | (refine W.call q0 rfl rfl (by k_ne) rfl H.f_uCas (nm_uCas L) rfl ?_; walk_nrmf uCasFn)
    | (refine W.leave1 q0 rfl rfl H.f_uAdd rfl ?_; walk_nrm)
    | (refine W.leave1 q0 rfl rfl H.f_uLoad rfl ?_; walk_nrm)
    | (refine W.leave0 q0 rfl rfl H.f_uStore rfl ?_; walk_nrm)
    | (refine W.leave1 q0 rfl rfl H.f_uCas rfl ?_; walk_nrm)
    | (refine W.defer q0 rfl rfl (by k_ne) rfl ?_; walk_nrm)
    | (refine W.idle rfl (fun _ => stepG_entry_pure (.bool false) rfl rfl (by k_ne) rfl H.f_inBubble (x_inBubble_n L) (x_inBubble_b L) (x_inBubble_x L) (x_inBubble_f L)) q0 ?_; walk_nrm)
  refine W.opk q0 rfl rfl (by k_ne) (fun w₁ h₁ K hK => by have hce := (WgLive.cell0 (hty ▸ live_rely h₁ hw)).choose_spec; have hcv := run_convert_to_unsafe (P := P) H.underlying_tWgP H.underlying_tUP H.room_tWg hce; go_simp; exact hK) (fun w₁ h₁ => by have hce := (WgLive.cell0 (hty ▸ live_rely h₁ hw)).choose_spec; have hcv := fun es => events_convert_to_unsafe (P := P) H.underlying_tWgP H.underlying_tUP H.room_tWg hce es; simp [go_sem, hcv]) ?_
  try w_num
  refine W.word .k1 rfl rfl rfl (fun s => rfl) rfl rfl (fun w₁ h₁ => stepG_markAt .releaseMerge (by simp) rfl rfl (by k_ne) rfl H.f_relMerge (x_relMerge_n L) (x_relMerge_b L) (x_relMerge_x L) (x_relMerge_f L) (by simp [Act.eval, stA])) ?_
  walk_nrm
  repeat first
    | refine W.seq q1 ?_
    | refine W.skip q1 ?_
    | refine W.regionEnd q1 ?_
    | refine W.block q1 ?_
    | refine W.inBlock q1 ?_
    | (refine W.region q1 ?_; simp only [List.size_toArray, List.length_cons, List.length_nil, Nat.reduceAdd, Nat.zero_add, List.range, List.range.loop])
    | (refine W.cond q1 rfl ?_; simp only [if_true, if_false, Bool.false_eq_true, ↓reduceIte])
    | (refine W.unwanted q1 rfl rfl ?_; walk_nrm)
    | (refine W.opk q1 rfl rfl (by k_ne) (fun w₁ h₁ K hK => by go_simp; exact hK) (fun w₁ h₁ => by simp [go_sem, *]) ?_; try w_num)
    | refine W.ret q1 ?_
    | (refine W.call q1 rfl rfl (by k_ne) rfl H.f_uAdd (nm_uAdd L) rfl ?_; walk_nrmf uAddFn)
    | (refine W.call q1 rfl rfl (by k_ne) rfl H.f_uLoad (nm_uLoad L) rfl ?_; walk_nrmf uLoadFn)
    | (refine W.call q1 rfl rfl (by k_ne) rfl H.f_uStore (nm_uStore L) rfl ?_; walk_nrmf uStoreFn)
    | (refine W.call q1 rfl rfl (by k_ne) rfl H.f_uCas (nm_uCas L) rfl ?_; walk_nrmf uCasFn)
    | (refine W.leave1 q1 rfl rfl H.f_uAdd rfl ?_; walk_nrm)
    | (refine W.leave1 q1 rfl rfl H.f_uLoad rfl ?_; walk_nrm)
    | (refine W.leave0 q1 rfl rfl H.f_uStore rfl ?_; walk_nrm)
    | (refine W.leave1 q1 rfl rfl H.f_uCas rfl ?_; walk_nrm)
    | (refine W.defer q1 rfl rfl (by k_ne) rfl ?_; walk_nrm)
    | (refine W.idle rfl (fun _ => stepG_entry_pure (.bool false) rfl rfl (by k_ne) rfl H.f_inBubble (x_inBubble_n L) (x_inBubble_b L) (x_inBubble_x L) (x_inBubble_f L)) q1 ?_; walk_nrm)
  refine W.word .d1 rfl rfl rfl (fun s => rfl) rfl rfl (fun w₁ h₁ => stepG_mark0 .disable (by simp) rfl rfl (by k_ne) rfl H.f_disable (x_disable_n L) (x_disable_b L) (x_disable_x L) (x_disable_f L)) ?_
  walk_nrm
  repeat first
    | refine W.seq q2 ?_
    | refine W.skip q2 ?_
    | refine W.regionEnd q2 ?_
    | refine W.block q2 ?_
    | refine W.inBlock q2 ?_
    | (refine W.region q2 ?_; simp only [List.size_toArray, List.length_cons, List.length_nil, Nat.reduceAdd, Nat.zero_add, List.range, List.range.loop])
    | (refine W.cond q2 rfl ?_; simp only [if_true, if_false, Bool.false_eq_true, ↓reduceIte])
    | (refine W.unwanted q2 rfl rfl ?_; walk_nrm)
    | (refine W.opk q2 rfl rfl (by k_ne) (fun w₁ h₁ K hK => by go_simp; exact hK) (fun w₁ h₁ => by simp [go_sem, *]) ?_; try w_num)
    | refine W.ret q2 ?_
    | (refine W.call q2 rfl rfl (by k_ne) rfl H.f_uAdd (nm_uAdd L) rfl ?_; walk_nrmf uAddFn)
    | (refine W.call q2 rfl rfl (by k_ne) rfl H.f_uLoad (nm_uLoad L) rfl ?_; walk_nrmf uLoadFn)
    | (refine W.call q2 rfl rfl (by k_ne) rfl H.f_uStore (nm_uStore L) rfl ?_; walk_nrmf uStoreFn)
    | (refine W.call q2 rfl rfl (by k_ne) rfl H.f_uCas (nm_uCas L) rfl ?_; walk_nrmf uCasFn)
    | (refine W.leave1 q2 rfl rfl H.f_uAdd rfl ?_; walk_nrm)
    | (refine W.leave1 q2 rfl rfl H.f_uLoad rfl ?_; walk_nrm)
    | (refine W.leave0 q2 rfl rfl H.f_uStore rfl ?_; walk_nrm)
    | (refine W.leave1 q2 rfl rfl H.f_uCas rfl ?_; walk_nrm)
    | (refine W.defer q2 rfl rfl (by k_ne) rfl ?_; walk_nrm)
    | (refine W.idle rfl (fun _ => stepG_entry_pure (.bool false) rfl rfl (by k_ne) rfl H.f_inBubble (x_inBubble_n L) (x_inBubble_b L) (x_inBubble_x L) (x_inBubble_f L)) q2 ?_; walk_nrm)
  refine W.d1 F hi rfl rfl (fun w₁ v wt hv hwt hg => by
    have hn := F.n31
    have eS : IntKind.u64.wrap (((v + 1 : Nat) : Int) * KK + wt + 18446744069414584320) = (v : Int) * KK + wt := by rw [IntKind.wrap_u64]; simp only [KK]; omega
    exact (stepG_add_atomic rfl rfl (by k_ne) rfl H.f_addU64 (x_addU64_n L) (x_addU64_b L) (x_addU64_x L) .u64 (x_addU64_f L) rfl rfl hg.cellSt (hg.thaw 0)).trans (by rw [eS]; rfl)) ?_ (fun v wt hv hwt hne => ?_)
  · rw [show ((0 : Nat) : Int) * KK + ((1 : Nat) : Int) = 1 from rfl]
    walk_nrm
    repeat first
      | refine W.seq q3 ?_
      | refine W.skip q3 ?_
      | refine W.regionEnd q3 ?_
      | refine W.block q3 ?_
      | refine W.inBlock q3 ?_
      | (refine W.region q3 ?_; simp only [List.size_toArray, List.length_cons, List.length_nil, Nat.reduceAdd, Nat.zero_add, List.range, List.range.loop])
      | (refine W.cond q3 rfl ?_; simp only [if_true, if_false, Bool.false_eq_true, ↓reduceIte])
      | (refine W.unwanted q3 rfl rfl ?_; walk_nrm)
      | (refine W.opk q3 rfl rfl (by k_ne) (fun w₁ h₁ K hK => by go_simp; exact hK) (fun w₁ h₁ => by simp [go_sem, *]) ?_; try w_num)
      | refine W.ret q3 ?_
      | (refine W.call q3 rfl rfl (by k_ne) rfl H.f_uAdd (nm_uAdd L) rfl ?_; walk_nrmf uAddFn)
      | (refine W.call q3 rfl rfl (by k_ne) rfl H.f_uLoad (nm_uLoad L) rfl ?_; walk_nrmf uLoadFn)
      | (refine W.call q3 rfl rfl (by k_ne) rfl H.f_uStore (nm_uStore L) rfl ?_; walk_nrmf uStoreFn)
      | (refine W.call q3 rfl rfl (by k_ne) rfl H.f_uCas (nm_uCas L) rfl ?_; walk_nrmf uCasFn)
      | (refine W.leave1 q3 rfl rfl H.f_uAdd rfl ?_; walk_nrm)
      | (refine W.leave1 q3 rfl rfl H.f_uLoad rfl ?_; walk_nrm)
      | (refine W.leave0 q3 rfl rfl H.f_uStore rfl ?_; walk_nrm)
      | (refine W.leave1 q3 rfl rfl H.f_uCas rfl ?_; walk_nrm)
      | (refine W.defer q3 rfl rfl (by k_ne) rfl ?_; walk_nrm)
      | (refine W.idle rfl (fun _ => stepG_entry_pure (.bool false) rfl rfl (by k_ne) rfl H.f_inBubble (x_inBubble_n L) (x_inBubble_b L) (x_inBubble_x L) (x_inBubble_f L)) q3 ?_; walk_nrm)
    refine W.d2 hi rfl rfl (fun w₁ hg => stepG_load_atomic rfl rfl (by k_ne) rfl H.f_loadU64 (x_loadU64_n L) (x_loadU64_b L) (x_loadU64_x L) .u64 (x_loadU64_f L) rfl hg.cellSt) ?_
    walk_nrm
    repeat first
      | refine W.seq q4 ?_
      | refine W.skip q4 ?_
      | refine W.regionEnd q4 ?_
      | refine W.block q4 ?_
      | refine W.inBlock q4 ?_
      | (refine W.region q4 ?_; simp only [List.size_toArray, List.length_cons, List.length_nil, Nat.reduceAdd, Nat.zero_add, List.range, List.range.loop])
      | (refine W.cond q4 rfl ?_; simp only [if_true, if_false, Bool.false_eq_true, ↓reduceIte])
      | (refine W.unwanted q4 rfl rfl ?_; walk_nrm)
      | (refine W.opk q4 rfl rfl (by k_ne) (fun w₁ h₁ K hK => by go_simp; exact hK) (fun w₁ h₁ => by simp [go_sem, *]) ?_; try w_num)
      | refine W.ret q4 ?_
      | (refine W.call q4 rfl rfl (by k_ne) rfl H.f_uAdd (nm_uAdd L) rfl ?_; walk_nrmf uAddFn)
      | (refine W.call q4 rfl rfl (by k_ne) rfl H.f_uLoad (nm_uLoad L) rfl ?_; walk_nrmf uLoadFn)
      | (refine W.call q4 rfl rfl (by k_ne) rfl H.f_uStore (nm_uStore L) rfl ?_; walk_nrmf uStoreFn)
      | (refine W.call q4 rfl rfl (by k_ne) rfl H.f_uCas (nm_uCas L) rfl ?_; walk_nrmf uCasFn)
      | (refine W.leave1 q4 rfl rfl H.f_uAdd rfl ?_; walk_nrm)
      | (refine W.leave1 q4 rfl rfl H.f_uLoad rfl ?_; walk_nrm)
      | (refine W.leave0 q4 rfl rfl H.f_uStore rfl ?_; walk_nrm)
      | (refine W.leave1 q4 rfl rfl H.f_uCas rfl ?_; walk_nrm)
      | (refine W.defer q4 rfl rfl (by k_ne) rfl ?_; walk_nrm)
      | (refine W.idle rfl (fun _ => stepG_entry_pure (.bool false) rfl rfl (by k_ne) rfl H.f_inBubble (x_inBubble_n L) (x_inBubble_b L) (x_inBubble_x L) (x_inBubble_f L)) q4 ?_; walk_nrm)
    refine W.d3 F hi rfl rfl (fun w₁ hg => stepG_store_atomic rfl rfl (by k_ne) rfl H.f_storeU64 (x_storeU64_n L) (x_storeU64_b L) (x_storeU64_x L) (x_storeU64_f L) rfl rfl hg.cellSt (hg.thaw 0)) ?_
    walk_nrm
    repeat first
      | refine W.seq q5 ?_
      | refine W.skip q5 ?_
      | refine W.regionEnd q5 ?_
      | refine W.block q5 ?_
      | refine W.inBlock q5 ?_
      | (refine W.region q5 ?_; simp only [List.size_toArray, List.length_cons, List.length_nil, Nat.reduceAdd, Nat.zero_add, List.range, List.range.loop])
      | (refine W.cond q5 rfl ?_; simp only [if_true, if_false, Bool.false_eq_true, ↓reduceIte])
      | (refine W.unwanted q5 rfl rfl ?_; walk_nrm)
      | (refine W.opk q5 rfl rfl (by k_ne) (fun w₁ h₁ K hK => by go_simp; exact hK) (fun w₁ h₁ => by simp [go_sem, *]) ?_; try w_num)
      | refine W.ret q5 ?_
      | (refine W.call q5 rfl rfl (by k_ne) rfl H.f_uAdd (nm_uAdd L) rfl ?_; walk_nrmf uAddFn)
      | (refine W.call q5 rfl rfl (by k_ne) rfl H.f_uLoad (nm_uLoad L) rfl ?_; walk_nrmf uLoadFn)
      | (refine W.call q5 rfl rfl (by k_ne) rfl H.f_uStore (nm_uStore L) rfl ?_; walk_nrmf uStoreFn)
      | (refine W.call q5 rfl rfl (by k_ne) rfl H.f_uCas (nm_uCas L) rfl ?_; walk_nrmf uCasFn)
      | (refine W.leave1 q5 rfl rfl H.f_uAdd rfl ?_; walk_nrm)
      | (refine W.leave1 q5 rfl rfl H.f_uLoad rfl ?_; walk_nrm)
      | (refine W.leave0 q5 rfl rfl H.f_uStore rfl ?_; walk_nrm)
      | (refine W.leave1 q5 rfl rfl H.f_uCas rfl ?_; walk_nrm)
      | (refine W.defer q5 rfl rfl (by k_ne) rfl ?_; walk_nrm)
      | (refine W.idle rfl (fun _ => stepG_entry_pure (.bool false) rfl rfl (by k_ne) rfl H.f_inBubble (x_inBubble_n L) (x_inBubble_b L) (x_inBubble_x L) (x_inBubble_f L)) q5 ?_; walk_nrm)
    refine W.fin q5 ?_
    refine W.leave0 q5 rfl rfl H.f_uStore rfl ?_
    walk_nrm
    repeat first
      | refine W.seq q5 ?_
      | refine W.skip q5 ?_
      | refine W.regionEnd q5 ?_
      | refine W.block q5 ?_
      | refine W.inBlock q5 ?_
      | (refine W.region q5 ?_; simp only [List.size_toArray, List.length_cons, List.length_nil, Nat.reduceAdd, Nat.zero_add, List.range, List.range.loop])
      | (refine W.cond q5 rfl ?_; simp only [if_true, if_false, Bool.false_eq_true, ↓reduceIte])
      | (refine W.unwanted q5 rfl rfl ?_; walk_nrm)
      | (refine W.opk q5 rfl rfl (by k_ne) (fun w₁ h₁ K hK => by go_simp; exact hK) (fun w₁ h₁ => by simp [go_sem, *]) ?_; try w_num)
      | refine W.ret q5 ?_
      | (refine W.call q5 rfl rfl (by k_ne) rfl H.f_uAdd (nm_uAdd L) rfl ?_; walk_nrmf uAddFn)
      | (refine W.call q5 rfl rfl (by k_ne) rfl H.f_uLoad (nm_uLoad L) rfl ?_; walk_nrmf uLoadFn)
      | (refine W.call q5 rfl rfl (by k_ne) rfl H.f_uStore (nm_uStore L) rfl ?_; walk_nrmf uStoreFn)
      | (refine W.call q5 rfl rfl (by k_ne) rfl H.f_uCas (nm_uCas L) rfl ?_; walk_nrmf uCasFn)
      | (refine W.leave1 q5 rfl rfl H.f_uAdd rfl ?_; walk_nrm)
      | (refine W.leave1 q5 rfl rfl H.f_uLoad rfl ?_; walk_nrm)
      | (refine W.leave0 q5 rfl rfl H.f_uStore rfl ?_; walk_nrm)
      | (refine W.leave1 q5 rfl rfl H.f_uCas rfl ?_; walk_nrm)
      | (refine W.defer q5 rfl rfl (by k_ne) rfl ?_; walk_nrm)
      | (refine W.idle rfl (fun _ => stepG_entry_pure (.bool false) rfl rfl (by k_ne) rfl H.f_inBubble (x_inBubble_n L) (x_inBubble_b L) (x_inBubble_x L) (x_inBubble_f L)) q5 ?_; walk_nrm)
    refine W.loop q5 ?_
    repeat first
      | refine W.seq q5 ?_
      | refine W.skip q5 ?_
      | refine W.regionEnd q5 ?_
      | refine W.block q5 ?_
      | refine W.inBlock q5 ?_
      | (refine W.region q5 ?_; simp only [List.size_toArray, List.length_cons, List.length_nil, Nat.reduceAdd, Nat.zero_add, List.range, List.range.loop])
      | (refine W.cond q5 rfl ?_; simp only [if_true, if_false, Bool.false_eq_true, ↓reduceIte])
      | (refine W.unwanted q5 rfl rfl ?_; walk_nrm)
      | (refine W.opk q5 rfl rfl (by k_ne) (fun w₁ h₁ K hK => by go_simp; exact hK) (fun w₁ h₁ => by simp [go_sem, *]) ?_; try w_num)
      | refine W.ret q5 ?_
      | (refine W.call q5 rfl rfl (by k_ne) rfl H.f_uAdd (nm_uAdd L) rfl ?_; walk_nrmf uAddFn)
      | (refine W.call q5 rfl rfl (by k_ne) rfl H.f_uLoad (nm_uLoad L) rfl ?_; walk_nrmf uLoadFn)
      | (refine W.call q5 rfl rfl (by k_ne) rfl H.f_uStore (nm_uStore L) rfl ?_; walk_nrmf uStoreFn)
      | (refine W.call q5 rfl rfl (by k_ne) rfl H.f_uCas (nm_uCas L) rfl ?_; walk_nrmf uCasFn)
      | (refine W.leave1 q5 rfl rfl H.f_uAdd rfl ?_; walk_nrm)
      | (refine W.leave1 q5 rfl rfl H.f_uLoad rfl ?_; walk_nrm)
      | (refine W.leave0 q5 rfl rfl H.f_uStore rfl ?_; walk_nrm)
      | (refine W.leave1 q5 rfl rfl H.f_uCas rfl ?_; walk_nrm)
      | (refine W.defer q5 rfl rfl (by k_ne) rfl ?_; walk_nrm)
      | (refine W.idle rfl (fun _ => stepG_entry_pure (.bool false) rfl rfl (by k_ne) rfl H.f_inBubble (x_inBubble_n L) (x_inBubble_b L) (x_inBubble_x L) (x_inBubble_f L)) q5 ?_; walk_nrm)
    refine W.d4 F hi rfl rfl (mayWake_entry rfl rfl H.f_semrelease (x_semrelease_b L)) rfl (fun w₁ hg => (stepG_semrelease rfl rfl (by k_ne) rfl H.f_semrelease (x_semrelease_n L) (x_semrelease_b L) (x_semrelease_x L) (x_semrelease_f L) (by simp [Act.eval, smA]) hg.cellSm (hg.thaw 1)).trans (by rfl)) ?_
    walk_nrm
    repeat first
      | refine Qs.seq ?_
      | refine Qs.skip ?_
      | refine Qs.regionEnd ?_
      | refine Qs.block ?_
      | refine Qs.inBlock ?_
      | refine Qs.loop ?_
      | refine Qs.inLoop ?_
      | refine Qs.ret ?_
      | (refine Qs.region ?_; simp only [List.size_toArray, List.length_cons, List.length_nil, Nat.reduceAdd, Nat.zero_add, List.range, List.range.loop])
      | (refine Qs.cond rfl ?_; simp only [if_true, if_false, Bool.false_eq_true, ↓reduceIte])
      | (refine Qs.unwanted rfl rfl ?_; walk_nrm)
      | (refine Qs.value rfl rfl (by k_ne) (fun _ => by go_simp <;> rfl) (fun _ => by simp [go_sem, *]) ?_; walk_nrm; try w_num)
      | (refine Qs.leave1 rfl rfl H.f_uAdd rfl ?_; walk_nrm)
      | (refine Qs.leave0 rfl rfl H.f_add rfl ?_; walk_nrm)
      | refine Qs.exit rfl ?_
      | refine Qs.enable rfl H.f_enable (x_enable_n L) (x_enable_b L) (x_enable_x L) (x_enable_f L) ?_
      | refine Qs.fin ?_
    exact Qs.leaveD rfl rfl H.f_done rfl hcm hT
  · have hn := F.n31
    rcases Nat.eq_zero_or_pos v with rfl | hvp
    · obtain rfl : wt = 0 := by omega
      rw [show ((0 : Nat) : Int) * KK + ((0 : Nat) : Int) = 0 from rfl]
      clear hn hv hwt hne
      walk_nrm
      repeat first
        | refine Qs.seq ?_
        | refine Qs.skip ?_
        | refine Qs.regionEnd ?_
        | refine Qs.block ?_
        | refine Qs.inBlock ?_
        | refine Qs.loop ?_
        | refine Qs.inLoop ?_
        | refine Qs.ret ?_
        | (refine Qs.region ?_; simp only [List.size_toArray, List.length_cons, List.length_nil, Nat.reduceAdd, Nat.zero_add, List.range, List.range.loop])
        | (refine Qs.cond rfl ?_; simp only [if_true, if_false, Bool.false_eq_true, ↓reduceIte])
        | (refine Qs.unwanted rfl rfl ?_; walk_nrm)
        | (refine Qs.value rfl rfl (by k_ne) (fun _ => by go_simp <;> rfl) (fun _ => by simp [go_sem, *]) ?_; walk_nrm; try w_num)
        | (refine Qs.leave1 rfl rfl H.f_uAdd rfl ?_; walk_nrm)
        | (refine Qs.leave0 rfl rfl H.f_add rfl ?_; walk_nrm)
        | refine Qs.exit rfl ?_
        | refine Qs.enable rfl H.f_enable (x_enable_n L) (x_enable_b L) (x_enable_x L) (x_enable_f L) ?_
        | refine Qs.fin ?_
      exact Qs.leaveD rfl rfl H.f_done rfl hcm hT
    · obtain ⟨S, hS⟩ : ∃ S : Int, S = (v : Int) * KK + (wt : Int) := ⟨_, rfl⟩
      rw [← hS]
      have a1 : S / 4294967296 = (v : Int) := by rw [hS]; simp only [KK]; omega
      have b1 : bits .and .u64 S 2147483648 = 0 := by rw [hS]; have := st_flag v wt (by omega) (by omega); simpa [KK] using this
      have b2 : bits .and .u64 S 2147483647 = (wt : Int) := by rw [hS]; have := st_waiters v wt (by omega) (by omega); simpa [KK] using this
      have c1 : IntKind.i32.wrap (v : Int) = (v : Int) := by rw [IntKind.wrap_i32]; omega
      have z3 : decide ((v : Int) < 0) = false := decide_eq_false (by omega)
      have z4 : decide (0 < (v : Int)) = true := decide_eq_true (by omega)
      have z7 : ((v : Int) == -1) = false := by simp <;> omega
      have z8 : decide ((v : Int) = -1) = false := decide_eq_false (by omega)
      obtain ⟨V, hV⟩ : ∃ V : Int, V = (v : Int) := ⟨_, rfl⟩
      rw [← hV] at a1 c1 z3 z4 z7 z8
      clear hS hV hvp hv hn hne
      obtain rfl | rfl : wt = 0 ∨ wt = 1 := by omega
      · replace b2 : bits .and .u64 S 2147483647 = 0 := b2
        clear hwt
        walk_nrm
        repeat first
          | refine Qs.seq ?_
          | refine Qs.skip ?_
          | refine Qs.regionEnd ?_
          | refine Qs.block ?_
          | refine Qs.inBlock ?_
          | refine Qs.loop ?_
          | refine Qs.inLoop ?_
          | refine Qs.ret ?_
          | (refine Qs.region ?_; simp only [List.size_toArray, List.length_cons, List.length_nil, Nat.reduceAdd, Nat.zero_add, List.range, List.range.loop])
          | (refine Qs.cond rfl ?_; simp only [if_true, if_false, Bool.false_eq_true, ↓reduceIte])
          | (refine Qs.unwanted rfl rfl ?_; walk_nrm)
          | (refine Qs.value rfl rfl (by k_ne) (fun _ => by go_simp <;> rfl) (fun _ => by simp [go_sem, *]) ?_; walk_nrm; try w_num)
          | (refine Qs.leave1 rfl rfl H.f_uAdd rfl ?_; walk_nrm)
          | (refine Qs.leave0 rfl rfl H.f_add rfl ?_; walk_nrm)
          | refine Qs.exit rfl ?_
          | refine Qs.enable rfl H.f_enable (x_enable_n L) (x_enable_b L) (x_enable_x L) (x_enable_f L) ?_
          | refine Qs.fin ?_
        exact Qs.leaveD rfl rfl H.f_done rfl hcm hT
      · replace b2 : bits .and .u64 S 2147483647 = 1 := b2
        clear hwt
        walk_nrm
        repeat first
          | refine Qs.seq ?_
          | refine Qs.skip ?_
          | refine Qs.regionEnd ?_
          | refine Qs.block ?_
          | refine Qs.inBlock ?_
          | refine Qs.loop ?_
          | refine Qs.inLoop ?_
          | refine Qs.ret ?_
          | (refine Qs.region ?_; simp only [List.size_toArray, List.length_cons, List.length_nil, Nat.reduceAdd, Nat.zero_add, List.range, List.range.loop])
          | (refine Qs.cond rfl ?_; simp only [if_true, if_false, Bool.false_eq_true, ↓reduceIte])
          | (refine Qs.unwanted rfl rfl ?_; walk_nrm)
          | (refine Qs.value rfl rfl (by k_ne) (fun _ => by go_simp <;> rfl) (fun _ => by simp [go_sem, *]) ?_; walk_nrm; try w_num)
          | (refine Qs.leave1 rfl rfl H.f_uAdd rfl ?_; walk_nrm)
          | (refine Qs.leave0 rfl rfl H.f_add rfl ?_; walk_nrm)
          | refine Qs.exit rfl ?_
          | refine Qs.enable rfl H.f_enable (x_enable_n L) (x_enable_b L) (x_enable_x L) (x_enable_f L) ?_
          | refine Qs.fin ?_
        exact Qs.leaveD rfl rfl H.f_done rfl hcm hT
end
end Go.Proofs.Ytboiolnnhmlieaa.Gang

