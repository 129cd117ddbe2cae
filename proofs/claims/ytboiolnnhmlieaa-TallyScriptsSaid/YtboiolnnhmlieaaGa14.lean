
/-
  A member's way through (*sync.WaitGroup).Wait.
  Conditions: stated lemma by lemma.
-/
import Derived.Test.YtboiolnnhmlieaaGa11
namespace Go.Proofs.Ytboiolnnhmlieaa.Gang
open Go.Conc Go.ConcN Go.RowKit Go.Conc.Lib Go.ConcR.Gen Go.ConcN.Gen
open Go.ConcR (wgBlock WgAt stA smA rd wr KK)
set_option linter.unusedVariables false
set_option linter.unusedSimpArgs false
attribute [local irreducible] Job.C Job.W Qs

section
variable {X Lam : Type} {P : Program} {J : Job P X Lam} {b₀ : Frame} {a₀ : Act} {ops₀ : Array Oper} {i₀ : Nat} {rest₀ : List Nat} {k₀ : List Item} {cs : List Frame} {w : World} {L : WgLink}
/-- at the head of Wait's loop -/
def Head (L : WgLink) (Wg : Nat) (c : Frame) (cs : List Frame) (g : Goroutine) : Prop :=
  ∃ T : Array Value, g = G ((base L.wait).at ⟨T, []⟩ [.code (L7 L), .inLoop (L7 L), .inBlock 0]) (c :: cs) ∧ T.size = 84 ∧ T[0]? = some (.pointer (some ⟨Wg, 0, none⟩))
set_option maxRecDepth 100000 in
set_option maxHeartbeats 8000000 in
theorem waitStart (H : WgLib P L) (hA : ∀ g, Head L J.Wg (b₀.at a₀ (.inRegion ops₀ (i₀ :: rest₀) :: k₀)) cs g → J.W 0 .w1 g w) :
    J.W 0 .kd (G ((base L.wait).at ⟨#[.pointer (some ⟨J.Wg, 0, none⟩), undef, undef, undef, undef, undef, undef, undef, undef, undef, undef, undef, undef, undef, undef, undef, undef, undef, undef, undef, undef, undef, undef, undef, undef, undef, undef, undef, undef, undef, undef, undef, undef, undef, undef, undef, undef, undef, undef, undef, undef, undef, undef, undef, undef, undef, undef, undef, undef, undef, undef, undef, undef, undef, undef, undef, undef, undef, undef, undef, undef, undef, undef, undef, undef, undef, undef, undef, undef, undef, undef, undef, undef, undef, undef, undef, undef, undef, undef, undef, undef, undef, undef, undef], []⟩ [.code (body_wait L)]) (b₀.at a₀ (.inRegion ops₀ (i₀ :: rest₀) :: k₀) :: cs)) w := by
  lib_facts
  have q0 : (Pos.kd : Pos Lam).quit = false := rfl
  have q1 : (Pos.w1 : Pos Lam).quit = false := rfl
  simp only [body_wait, waitFn, Option.getD_some]
  repeat first
    | refine W.seq q0 ?_
    | refine W.skip q0 ?_
    | refine W.regionEnd q0 ?_
    | refine W.block q0 ?_
    | refine W.inBlock q0 ?_
    | (refine W.region q0 ?_; simp only [List.size_toArray, List.length_cons, List.length_nil, Nat.reduceAdd, Nat.zero_add, List.range, List.range.loop])
    | (refine W.cond q0 rfl ?_; simp only [if_true, if_false, Bool.false_eq_true, ↓reduceIte])
    | (refine W.unwanted q0 rfl rfl ?_; walk_nrm)
    | (refine W.opk q0 rfl rfl (by k_ne) (fun w₁ h₁ K hK => by go_simp; exact hK) (fun w₁ h₁ => by simp [go_sem, *]) ?_; try w_num)
    | refine W.ret q0 ?_
    | (refine W.call q0 rfl rfl (by k_ne) rfl H.f_uAdd (nm_uAdd L) rfl ?_; walk_nrmf uAddFn)
    | (refine W.call q0 rfl rfl (by k_ne) rfl H.f_uLoad (nm_uLoad L) rfl ?_; walk_nrmf uLoadFn)
    | (refine W.call q0 rfl rfl (by k_ne) rfl H.f_uStore (nm_uStore L) rfl ?_; walk_nrmf uStoreFn)
    | (refine W.call q0 rfl rfl (by k_ne) rfl H.f_uCas (nm_uCas L) rfl ?_; walk_nrmf uCasFn)
    | (refine W.leave1 q0 rfl rfl H.f_uAdd rfl ?_; walk_nrm)
    | (refine W.leave1 q0 rfl rfl H.f_uLoad rfl ?_; walk_nrm)
    | (refine W.leave0 q0 rfl rfl H.f_uStore rfl ?_; walk_nrm)
    | (refine W.leave1 q0 rfl rfl H.f_uCas rfl ?_; walk_nrm)
    | (refine W.defer q0 rfl rfl (by k_ne) rfl ?_; walk_nrm)
    | (refine W.idle rfl (fun _ => stepG_entry_pure (.bool false) rfl rfl (by k_ne) rfl H.f_inBubble (x_inBubble_n L) (x_inBubble_b L) (x_inBubble_x L) (x_inBubble_f L)) q0 ?_; walk_nrm)
  refine W.word .w1 rfl rfl rfl (fun s => rfl) rfl rfl (fun w₁ h₁ => stepG_mark0 .disable (by simp) rfl rfl (by k_ne) rfl H.f_disable (x_disable_n L) (x_disable_b L) (x_disable_x L) (x_disable_f L)) ?_
  walk_nrm
  repeat first
    | refine W.seq q1 ?_
    | refine W.skip q1 ?_
    | refine W.regionEnd q1 ?_
    | refine W.block q1 ?_
    | refine W.inBlock q1 ?_
    | (refine W.region q1 ?_; simp only [List.size_toArray, List.length_cons, List.length_nil, Nat.reduceAdd, Nat.zero_add, List.range, List.range.loop])
    | (refine W.cond q1 rfl ?_; simp only [if_true, if_false, Bool.false_eq_true, ↓reduceIte])
    | (refine W.unwanted q1 rfl rfl ?_; walk_nrm)
    | (refine W.opk q1 rfl rfl (by k_ne) (fun w₁ h₁ K hK => by go_simp; exact hK) (fun w₁ h₁ => by simp [go_sem, *]) ?_; try w_num)
    | refine W.ret q1 ?_
    | (refine W.call q1 rfl rfl (by k_ne) rfl H.f_uAdd (nm_uAdd L) rfl ?_; walk_nrmf uAddFn)
    | (refine W.call q1 rfl rfl (by k_ne) rfl H.f_uLoad (nm_uLoad L) rfl ?_; walk_nrmf uLoadFn)
    | (refine W.call q1 rfl rfl (by k_ne) rfl H.f_uStore (nm_uStore L) rfl ?_; walk_nrmf uStoreFn)
    | (refine W.call q1 rfl rfl (by k_ne) rfl H.f_uCas (nm_uCas L) rfl ?_; walk_nrmf uCasFn)
    | (refine W.leave1 q1 rfl rfl H.f_uAdd rfl ?_; walk_nrm)
    | (refine W.leave1 q1 rfl rfl H.f_uLoad rfl ?_; walk_nrm)
    | (refine W.leave0 q1 rfl rfl H.f_uStore rfl ?_; walk_nrm)
    | (refine W.leave1 q1 rfl rfl H.f_uCas rfl ?_; walk_nrm)
    | (refine W.defer q1 rfl rfl (by k_ne) rfl ?_; walk_nrm)
    | (refine W.idle rfl (fun _ => stepG_entry_pure (.bool false) rfl rfl (by k_ne) rfl H.f_inBubble (x_inBubble_n L) (x_inBubble_b L) (x_inBubble_x L) (x_inBubble_f L)) q1 ?_; walk_nrm)
  refine W.loop q1 ?_
  exact hA _ ⟨_, rfl, by simp, by simp⟩
set_option maxRecDepth 100000 in
set_option maxHeartbeats 8000000 in
theorem waitRound (F : J.Grp) (H : WgLib P L) (hty : J.ty = L.tWg) (hw : liveAt J.ty J.Wg w) (hT : J.W 0 .ret (G (b₀.at (a₀.put ((ops₀[i₀]?).bind (·.dst)) (.tuple #[])) (.inRegion ops₀ rest₀ :: k₀)) cs) w)
    (hA : ∀ g, Head L J.Wg (b₀.at a₀ (.inRegion ops₀ (i₀ :: rest₀) :: k₀)) cs g → J.W 0 .w1 g w) {g : Goroutine} (hg : Head L J.Wg (b₀.at a₀ (.inRegion ops₀ (i₀ :: rest₀) :: k₀)) cs g) : J.C 0 .w1 g w := by
  have q1 : (Pos.w1 : Pos Lam).quit = false := rfl
  have q3 : (Pos.w3 : Pos Lam).quit = false := rfl
  have q4 : (Pos.w4 : Pos Lam).quit = false := rfl
  have q5 : (Pos.ke : Pos Lam).quit = false := rfl
  have q6 : (Pos.acq : Pos Lam).quit = false := rfl
  have q7 : (Pos.ret : Pos Lam).quit = false := rfl
  obtain ⟨T, rfl, hT84, t0⟩ := hg
  obtain ⟨v0, v1, v2, v3, v4, v5, v6, v7, v8, v9, v10, v11, v12, v13, v14, v15, v16, v17, v18, v19, v20, v21, v22, v23, v24, v25, v26, v27, v28, v29, v30, v31, v32, v33, v34, v35, v36, v37, v38, v39, v40, v41, v42, v43, v44, v45, v46, v47, v48, v49, v50, v51, v52, v53, v54, v55, v56, v57, v58, v59, v60, v61, v62, v63, v64, v65, v66, v67, v68, v69, v70, v71, v72, v73, v74, v75, v76, v77, v78, v79, v80, v81, v82, v83, rfl⟩ := array84 T hT84
  simp only [List.getElem?_toArray, List.getElem?_cons_zero, Option.some.injEq] at t0
  subst t0
  clear hT84
  lib_facts
  simp only [L7, body_wait, waitFn, Option.getD_some]
  repeat first
    | refine C.seq q1 ?_
    | refine C.skip q1 ?_
    | refine C.regionEnd q1 ?_
    | refine C.block q1 ?_
    | refine C.inBlock q1 ?_
    | (refine C.region q1 ?_; simp only [List.size_toArray, List.length_cons, List.length_nil, Nat.reduceAdd, Nat.zero_add, List.range, List.range.loop])
    | (refine C.cond q1 rfl ?_; simp only [if_true, if_false, Bool.false_eq_true, ↓reduceIte])
    | (refine C.unwanted q1 rfl rfl ?_; walk_nrm)
    | (refine C.opk q1 rfl rfl (by k_ne) (fun w₁ h₁ K hK => by go_simp; exact hK) (fun w₁ h₁ => by simp [go_sem, *]) ?_; try w_num)
    | refine C.ret q1 ?_
    | (refine C.call q1 rfl rfl (by k_ne) rfl H.f_uAdd (nm_uAdd L) rfl ?_; walk_nrmf uAddFn)
    | (refine C.call q1 rfl rfl (by k_ne) rfl H.f_uLoad (nm_uLoad L) rfl ?_; walk_nrmf uLoadFn)
    | (refine C.call q1 rfl rfl (by k_ne) rfl H.f_uStore (nm_uStore L) rfl ?_; walk_nrmf uStoreFn)
    | (refine C.call q1 rfl rfl (by k_ne) rfl H.f_uCas (nm_uCas L) rfl ?_; walk_nrmf uCasFn)
    | (refine C.leave1 q1 rfl rfl H.f_uAdd rfl ?_; walk_nrm)
    | (refine C.leave1 q1 rfl rfl H.f_uLoad rfl ?_; walk_nrm)
    | (refine C.leave0 q1 rfl rfl H.f_uStore rfl ?_; walk_nrm)
    | (refine C.leave1 q1 rfl rfl H.f_uCas rfl ?_; walk_nrm)
    | (refine C.defer q1 rfl rfl (by k_ne) rfl ?_; walk_nrm)
    | (refine C.idle rfl (fun _ => stepG_entry_pure (.bool false) rfl rfl (by k_ne) rfl H.f_inBubble (x_inBubble_n L) (x_inBubble_b L) (x_inBubble_x L) (x_inBubble_f L)) q1 ?_; walk_nrm)
  refine C.w1 F rfl rfl (fun w₁ v hv hg => stepG_load_atomic rfl rfl (by k_ne) rfl H.f_loadU64 (x_loadU64_n L) (x_loadU64_b L) (x_loadU64_x L) .u64 (x_loadU64_f L) rfl hg.cellSt) ?_ (fun v hv hv0 => ?_)
  · rw [show ((0 : Nat) : Int) * KK + ((0 : Nat) : Int) = 0 from rfl]
    walk_nrm
    repeat first
      | refine W.seq q5 ?_
      | refine W.skip q5 ?_
      | refine W.regionEnd q5 ?_
      | refine W.block q5 ?_
      | refine W.inBlock q5 ?_
      | (refine W.region q5 ?_; simp only [List.size_toArray, List.length_cons, List.length_nil, Nat.reduceAdd, Nat.zero_add, List.range, List.range.loop])
      | (refine W.cond q5 rfl ?_; simp only [if_true, if_false, Bool.false_eq_true, ↓reduceIte])
      | (refine W.unwanted q5 rfl rfl ?_; walk_nrm)
      | (refine W.opk q5 rfl rfl (by k_ne) (fun w₁ h₁ K hK => by go_simp; exact hK) (fun w₁ h₁ => by simp [go_sem, *]) ?_; try w_num)
      | refine W.ret q5 ?_
      | (refine W.call q5 rfl rfl (by k_ne) rfl H.f_uAdd (nm_uAdd L) rfl ?_; walk_nrmf uAddFn)
      | (refine W.call q5 rfl rfl (by k_ne) rfl H.f_uLoad (nm_uLoad L) rfl ?_; walk_nrmf uLoadFn)
      | (refine W.call q5 rfl rfl (by k_ne) rfl H.f_uStore (nm_uStore L) rfl ?_; walk_nrmf uStoreFn)
      | (refine W.call q5 rfl rfl (by k_ne) rfl H.f_uCas (nm_uCas L) rfl ?_; walk_nrmf uCasFn)
      | (refine W.leave1 q5 rfl rfl H.f_uAdd rfl ?_; walk_nrm)
      | (refine W.leave1 q5 rfl rfl H.f_uLoad rfl ?_; walk_nrm)
      | (refine W.leave0 q5 rfl rfl H.f_uStore rfl ?_; walk_nrm)
      | (refine W.leave1 q5 rfl rfl H.f_uCas rfl ?_; walk_nrm)
      | (refine W.defer q5 rfl rfl (by k_ne) rfl ?_; walk_nrm)
      | (refine W.idle rfl (fun _ => stepG_entry_pure (.bool false) rfl rfl (by k_ne) rfl H.f_inBubble (x_inBubble_n L) (x_inBubble_b L) (x_inBubble_x L) (x_inBubble_f L)) q5 ?_; walk_nrm)
    refine W.word .acq rfl rfl rfl (fun s => rfl) rfl rfl (fun w₁ h₁ => stepG_mark0 .enable (by simp) rfl rfl (by k_ne) rfl H.f_enable (x_enable_n L) (x_enable_b L) (x_enable_x L) (x_enable_f L)) ?_
    walk_nrm
    repeat first
      | refine W.seq q6 ?_
      | refine W.skip q6 ?_
      | refine W.regionEnd q6 ?_
      | refine W.block q6 ?_
      | refine W.inBlock q6 ?_
      | (refine W.region q6 ?_; simp only [List.size_toArray, List.length_cons, List.length_nil, Nat.reduceAdd, Nat.zero_add, List.range, List.range.loop])
      | (refine W.cond q6 rfl ?_; simp only [if_true, if_false, Bool.false_eq_true, ↓reduceIte])
      | (refine W.unwanted q6 rfl rfl ?_; walk_nrm)
      | (refine W.opk q6 rfl rfl (by k_ne) (fun w₁ h₁ K hK => by go_simp; exact hK) (fun w₁ h₁ => by simp [go_sem, *]) ?_; try w_num)
      | refine W.ret q6 ?_
      | (refine W.call q6 rfl rfl (by k_ne) rfl H.f_uAdd (nm_uAdd L) rfl ?_; walk_nrmf uAddFn)
      | (refine W.call q6 rfl rfl (by k_ne) rfl H.f_uLoad (nm_uLoad L) rfl ?_; walk_nrmf uLoadFn)
      | (refine W.call q6 rfl rfl (by k_ne) rfl H.f_uStore (nm_uStore L) rfl ?_; walk_nrmf uStoreFn)
      | (refine W.call q6 rfl rfl (by k_ne) rfl H.f_uCas (nm_uCas L) rfl ?_; walk_nrmf uCasFn)
      | (refine W.leave1 q6 rfl rfl H.f_uAdd rfl ?_; walk_nrm)
      | (refine W.leave1 q6 rfl rfl H.f_uLoad rfl ?_; walk_nrm)
      | (refine W.leave0 q6 rfl rfl H.f_uStore rfl ?_; walk_nrm)
      | (refine W.leave1 q6 rfl rfl H.f_uCas rfl ?_; walk_nrm)
      | (refine W.defer q6 rfl rfl (by k_ne) rfl ?_; walk_nrm)
      | (refine W.idle rfl (fun _ => stepG_entry_pure (.bool false) rfl rfl (by k_ne) rfl H.f_inBubble (x_inBubble_n L) (x_inBubble_b L) (x_inBubble_x L) (x_inBubble_f L)) q6 ?_; walk_nrm)
    refine W.opk q6 rfl rfl (by k_ne) (fun w₁ h₁ K hK => by have hce := (WgLive.cell0 (hty ▸ live_rely h₁ hw)).choose_spec; have hcv := run_convert_to_unsafe (P := P) H.underlying_tWgP H.underlying_tUP H.room_tWg hce; go_simp; exact hK) (fun w₁ h₁ => by have hce := (WgLive.cell0 (hty ▸ live_rely h₁ hw)).choose_spec; have hcv := fun es => events_convert_to_unsafe (P := P) H.underlying_tWgP H.underlying_tUP H.room_tWg hce es; simp [go_sem, hcv]) ?_
    try w_num
    refine W.word .ret rfl rfl rfl (fun s => rfl) rfl rfl (fun w₁ h₁ => stepG_markAt .acquire (by simp) rfl rfl (by k_ne) rfl H.f_acquire (x_acquire_n L) (x_acquire_b L) (x_acquire_x L) (x_acquire_f L) (by simp [Act.eval, stA])) ?_
    walk_nrm
    repeat first
      | refine W.seq q7 ?_
      | refine W.skip q7 ?_
      | refine W.regionEnd q7 ?_
      | refine W.block q7 ?_
      | refine W.inBlock q7 ?_
      | (refine W.region q7 ?_; simp only [List.size_toArray, List.length_cons, List.length_nil, Nat.reduceAdd, Nat.zero_add, List.range, List.range.loop])
      | (refine W.cond q7 rfl ?_; simp only [if_true, if_false, Bool.false_eq_true, ↓reduceIte])
      | (refine W.unwanted q7 rfl rfl ?_; walk_nrm)
      | (refine W.opk q7 rfl rfl (by k_ne) (fun w₁ h₁ K hK => by go_simp; exact hK) (fun w₁ h₁ => by simp [go_sem, *]) ?_; try w_num)
      | refine W.ret q7 ?_
      | (refine W.call q7 rfl rfl (by k_ne) rfl H.f_uAdd (nm_uAdd L) rfl ?_; walk_nrmf uAddFn)
      | (refine W.call q7 rfl rfl (by k_ne) rfl H.f_uLoad (nm_uLoad L) rfl ?_; walk_nrmf uLoadFn)
      | (refine W.call q7 rfl rfl (by k_ne) rfl H.f_uStore (nm_uStore L) rfl ?_; walk_nrmf uStoreFn)
      | (refine W.call q7 rfl rfl (by k_ne) rfl H.f_uCas (nm_uCas L) rfl ?_; walk_nrmf uCasFn)
      | (refine W.leave1 q7 rfl rfl H.f_uAdd rfl ?_; walk_nrm)
      | (refine W.leave1 q7 rfl rfl H.f_uLoad rfl ?_; walk_nrm)
      | (refine W.leave0 q7 rfl rfl H.f_uStore rfl ?_; walk_nrm)
      | (refine W.leave1 q7 rfl rfl H.f_uCas rfl ?_; walk_nrm)
      | (refine W.defer q7 rfl rfl (by k_ne) rfl ?_; walk_nrm)
      | (refine W.idle rfl (fun _ => stepG_entry_pure (.bool false) rfl rfl (by k_ne) rfl H.f_inBubble (x_inBubble_n L) (x_inBubble_b L) (x_inBubble_x L) (x_inBubble_f L)) q7 ?_; walk_nrm)
    refine W.leave0 q7 rfl rfl H.f_wait rfl ?_
    walk_nrm
    exact hT
  · have q2 : (Pos.w2 v : Pos Lam).quit = false := rfl
    have hn := F.n31
    obtain ⟨S, hS⟩ : ∃ S : Int, (v : Int) * KK + ((0 : Nat) : Int) = S := ⟨_, rfl⟩
    rw [hS]
    have a1 : S / 4294967296 = (v : Int) := by rw [← hS]; simp only [KK]; omega
    have b1 : bits .and .u64 S 2147483648 = 0 := by rw [← hS]; have := st_flag v 0 (by omega) (by omega); simpa [KK] using this
    have b2 : bits .and .u64 S 2147483647 = 0 := by rw [← hS]; have := st_waiters v 0 (by omega) (by omega); simpa [KK] using this
    have c1 : IntKind.i32.wrap (v : Int) = (v : Int) := by rw [IntKind.wrap_i32]; omega
    have w1 : IntKind.u64.wrap (S + 1) = S + 1 := by rw [IntKind.wrap_u64, ← hS]; simp only [KK]; omega
    have z3 : decide ((v : Int) < 0) = false := decide_eq_false (by omega)
    have z4 : decide (0 < (v : Int)) = true := decide_eq_true (by omega)
    have z5 : ((v : Int) == 0) = false := by simp <;> omega
    have z6 : decide ((v : Int) = 0) = false := decide_eq_false (by omega)
    walk_nrm
    repeat first
      | refine W.seq q2 ?_
      | refine W.skip q2 ?_
      | refine W.regionEnd q2 ?_
      | refine W.block q2 ?_
      | refine W.inBlock q2 ?_
      | (refine W.region q2 ?_; simp only [List.size_toArray, List.length_cons, List.length_nil, Nat.reduceAdd, Nat.zero_add, List.range, List.range.loop])
      | (refine W.cond q2 rfl ?_; simp only [if_true, if_false, Bool.false_eq_true, ↓reduceIte])
      | (refine W.unwanted q2 rfl rfl ?_; walk_nrm)
      | (refine W.opk q2 rfl rfl (by k_ne) (fun w₁ h₁ K hK => by go_simp; exact hK) (fun w₁ h₁ => by simp [go_sem, *]) ?_; try w_num)
      | refine W.ret q2 ?_
      | (refine W.call q2 rfl rfl (by k_ne) rfl H.f_uAdd (nm_uAdd L) rfl ?_; walk_nrmf uAddFn)
      | (refine W.call q2 rfl rfl (by k_ne) rfl H.f_uLoad (nm_uLoad L) rfl ?_; walk_nrmf uLoadFn)
      | (refine W.call q2 rfl rfl (by k_ne) rfl H.f_uStore (nm_uStore L) rfl ?_; walk_nrmf uStoreFn)
      | (refine W.call q2 rfl rfl (by k_ne) rfl H.f_uCas (nm_uCas L) rfl ?_; walk_nrmf uCasFn)
      | (refine W.leave1 q2 rfl rfl H.f_uAdd rfl ?_; walk_nrm)
      | (refine W.leave1 q2 rfl rfl H.f_uLoad rfl ?_; walk_nrm)
      | (refine W.leave0 q2 rfl rfl H.f_uStore rfl ?_; walk_nrm)
      | (refine W.leave1 q2 rfl rfl H.f_uCas rfl ?_; walk_nrm)
      | (refine W.defer q2 rfl rfl (by k_ne) rfl ?_; walk_nrm)
      | (refine W.idle rfl (fun _ => stepG_entry_pure (.bool false) rfl rfl (by k_ne) rfl H.f_inBubble (x_inBubble_n L) (x_inBubble_b L) (x_inBubble_x L) (x_inBubble_f L)) q2 ?_; walk_nrm)
    refine W.w2 F rfl rfl (fun _ w₁ hg => by
      rw [hS] at hg
      exact (stepG_cas_hit (v := S) (n := S + 1) rfl rfl (by k_ne) rfl H.f_casU64 (x_casU64_n L) (x_casU64_b L) (x_casU64_x L) .u64 (x_casU64_f L) rfl rfl rfl hg.cellSt (hg.thaw 0)).trans (by rw [show (v : Int) * KK + ((1 : Nat) : Int) = S + 1 by rw [← hS]; simp]; rfl))
      (fun _ w₁ v' hv' hne hg => stepG_cas_miss (v := (v' : Int) * KK + ((0 : Nat) : Int)) (old := S) (n := S + 1) rfl rfl (by k_ne) rfl H.f_casU64 (x_casU64_n L) (x_casU64_b L) (x_casU64_x L) .u64 (x_casU64_f L) rfl rfl rfl hg.cellSt (hg.thaw 0) (by rw [← hS]; simp only [KK]; omega)) (fun _ => ?_) (fun _ => ?_)
    · clear hS hn
      walk_nrm
      repeat first
        | refine W.seq q3 ?_
        | refine W.skip q3 ?_
        | refine W.regionEnd q3 ?_
        | refine W.block q3 ?_
        | refine W.inBlock q3 ?_
        | (refine W.region q3 ?_; simp only [List.size_toArray, List.length_cons, List.length_nil, Nat.reduceAdd, Nat.zero_add, List.range, List.range.loop])
        | (refine W.cond q3 rfl ?_; simp only [if_true, if_false, Bool.false_eq_true, ↓reduceIte])
        | (refine W.unwanted q3 rfl rfl ?_; walk_nrm)
        | (refine W.opk q3 rfl rfl (by k_ne) (fun w₁ h₁ K hK => by go_simp; exact hK) (fun w₁ h₁ => by simp [go_sem, *]) ?_; try w_num)
        | refine W.ret q3 ?_
        | (refine W.call q3 rfl rfl (by k_ne) rfl H.f_uAdd (nm_uAdd L) rfl ?_; walk_nrmf uAddFn)
        | (refine W.call q3 rfl rfl (by k_ne) rfl H.f_uLoad (nm_uLoad L) rfl ?_; walk_nrmf uLoadFn)
        | (refine W.call q3 rfl rfl (by k_ne) rfl H.f_uStore (nm_uStore L) rfl ?_; walk_nrmf uStoreFn)
        | (refine W.call q3 rfl rfl (by k_ne) rfl H.f_uCas (nm_uCas L) rfl ?_; walk_nrmf uCasFn)
        | (refine W.leave1 q3 rfl rfl H.f_uAdd rfl ?_; walk_nrm)
        | (refine W.leave1 q3 rfl rfl H.f_uLoad rfl ?_; walk_nrm)
        | (refine W.leave0 q3 rfl rfl H.f_uStore rfl ?_; walk_nrm)
        | (refine W.leave1 q3 rfl rfl H.f_uCas rfl ?_; walk_nrm)
        | (refine W.defer q3 rfl rfl (by k_ne) rfl ?_; walk_nrm)
        | (refine W.idle rfl (fun _ => stepG_entry_pure (.bool false) rfl rfl (by k_ne) rfl H.f_inBubble (x_inBubble_n L) (x_inBubble_b L) (x_inBubble_x L) (x_inBubble_f L)) q3 ?_; walk_nrm)
      refine W.opk q3 rfl rfl (by k_ne) (fun w₁ h₁ K hK => by have hce := (WgLive.cell1 (hty ▸ live_rely h₁ hw)).choose_spec; have hcv := run_convert_to_unsafe (P := P) H.underlying_tPU32 H.underlying_tUP H.room_tU32 hce; go_simp; exact hK) (fun w₁ h₁ => by have hce := (WgLive.cell1 (hty ▸ live_rely h₁ hw)).choose_spec; have hcv := fun es => events_convert_to_unsafe (P := P) H.underlying_tPU32 H.underlying_tUP H.room_tU32 hce es; simp [go_sem, hcv]) ?_
      try w_num
      refine W.said rfl (fun w₁ h₁ => stepG_markAt .write (by simp) rfl rfl (by k_ne) rfl H.f_raceWrite (x_raceWrite_n L) (x_raceWrite_b L) (x_raceWrite_x L) (x_raceWrite_f L) (ad := ⟨J.Wg, 1, none⟩) (by simp [Act.eval])) (fun w₁ => step_said F _ rfl .write (.inr rfl)) q3 ?_
      walk_nrm
      repeat first
        | refine W.seq q3 ?_
        | refine W.skip q3 ?_
        | refine W.regionEnd q3 ?_
        | refine W.block q3 ?_
        | refine W.inBlock q3 ?_
        | (refine W.region q3 ?_; simp only [List.size_toArray, List.length_cons, List.length_nil, Nat.reduceAdd, Nat.zero_add, List.range, List.range.loop])
        | (refine W.cond q3 rfl ?_; simp only [if_true, if_false, Bool.false_eq_true, ↓reduceIte])
        | (refine W.unwanted q3 rfl rfl ?_; walk_nrm)
        | (refine W.opk q3 rfl rfl (by k_ne) (fun w₁ h₁ K hK => by go_simp; exact hK) (fun w₁ h₁ => by simp [go_sem, *]) ?_; try w_num)
        | refine W.ret q3 ?_
        | (refine W.call q3 rfl rfl (by k_ne) rfl H.f_uAdd (nm_uAdd L) rfl ?_; walk_nrmf uAddFn)
        | (refine W.call q3 rfl rfl (by k_ne) rfl H.f_uLoad (nm_uLoad L) rfl ?_; walk_nrmf uLoadFn)
        | (refine W.call q3 rfl rfl (by k_ne) rfl H.f_uStore (nm_uStore L) rfl ?_; walk_nrmf uStoreFn)
        | (refine W.call q3 rfl rfl (by k_ne) rfl H.f_uCas (nm_uCas L) rfl ?_; walk_nrmf uCasFn)
        | (refine W.leave1 q3 rfl rfl H.f_uAdd rfl ?_; walk_nrm)
        | (refine W.leave1 q3 rfl rfl H.f_uLoad rfl ?_; walk_nrm)
        | (refine W.leave0 q3 rfl rfl H.f_uStore rfl ?_; walk_nrm)
        | (refine W.leave1 q3 rfl rfl H.f_uCas rfl ?_; walk_nrm)
        | (refine W.defer q3 rfl rfl (by k_ne) rfl ?_; walk_nrm)
        | (refine W.idle rfl (fun _ => stepG_entry_pure (.bool false) rfl rfl (by k_ne) rfl H.f_inBubble (x_inBubble_n L) (x_inBubble_b L) (x_inBubble_x L) (x_inBubble_f L)) q3 ?_; walk_nrm)
      refine W.w3 F rfl rfl (fun w₁ st hg => stepG_semacquire_wait rfl rfl rfl H.f_semacquire (x_semacquire_n L) (x_semacquire_b L) (x_semacquire_x L) (x_semacquire_f L) (by simp [Act.eval, smA]) hg.cellSm) (fun w₁ hg => (stepG_semacquire (n := 1) rfl rfl (by k_ne) rfl H.f_semacquire (x_semacquire_n L) (x_semacquire_b L) (x_semacquire_x L) (x_semacquire_f L) (by simp [Act.eval, smA]) hg.cellSm (by k_ne) (hg.thaw 1)).trans (by rfl)) ?_
      walk_nrm
      repeat first
        | refine W.seq q4 ?_
        | refine W.skip q4 ?_
        | refine W.regionEnd q4 ?_
        | refine W.block q4 ?_
        | refine W.inBlock q4 ?_
        | (refine W.region q4 ?_; simp only [List.size_toArray, List.length_cons, List.length_nil, Nat.reduceAdd, Nat.zero_add, List.range, List.range.loop])
        | (refine W.cond q4 rfl ?_; simp only [if_true, if_false, Bool.false_eq_true, ↓reduceIte])
        | (refine W.unwanted q4 rfl rfl ?_; walk_nrm)
        | (refine W.opk q4 rfl rfl (by k_ne) (fun w₁ h₁ K hK => by go_simp; exact hK) (fun w₁ h₁ => by simp [go_sem, *]) ?_; try w_num)
        | refine W.ret q4 ?_
        | (refine W.call q4 rfl rfl (by k_ne) rfl H.f_uAdd (nm_uAdd L) rfl ?_; walk_nrmf uAddFn)
        | (refine W.call q4 rfl rfl (by k_ne) rfl H.f_uLoad (nm_uLoad L) rfl ?_; walk_nrmf uLoadFn)
        | (refine W.call q4 rfl rfl (by k_ne) rfl H.f_uStore (nm_uStore L) rfl ?_; walk_nrmf uStoreFn)
        | (refine W.call q4 rfl rfl (by k_ne) rfl H.f_uCas (nm_uCas L) rfl ?_; walk_nrmf uCasFn)
        | (refine W.leave1 q4 rfl rfl H.f_uAdd rfl ?_; walk_nrm)
        | (refine W.leave1 q4 rfl rfl H.f_uLoad rfl ?_; walk_nrm)
        | (refine W.leave0 q4 rfl rfl H.f_uStore rfl ?_; walk_nrm)
        | (refine W.leave1 q4 rfl rfl H.f_uCas rfl ?_; walk_nrm)
        | (refine W.defer q4 rfl rfl (by k_ne) rfl ?_; walk_nrm)
        | (refine W.idle rfl (fun _ => stepG_entry_pure (.bool false) rfl rfl (by k_ne) rfl H.f_inBubble (x_inBubble_n L) (x_inBubble_b L) (x_inBubble_x L) (x_inBubble_f L)) q4 ?_; walk_nrm)
      refine W.w4 rfl rfl (fun w₁ hg => stepG_load_atomic (v := 0) rfl rfl (by k_ne) rfl H.f_loadU64 (x_loadU64_n L) (x_loadU64_b L) (x_loadU64_x L) .u64 (x_loadU64_f L) rfl hg.cellSt) ?_
      walk_nrm
      repeat first
        | refine W.seq q5 ?_
        | refine W.skip q5 ?_
        | refine W.regionEnd q5 ?_
        | refine W.block q5 ?_
        | refine W.inBlock q5 ?_
        | (refine W.region q5 ?_; simp only [List.size_toArray, List.length_cons, List.length_nil, Nat.reduceAdd, Nat.zero_add, List.range, List.range.loop])
        | (refine W.cond q5 rfl ?_; simp only [if_true, if_false, Bool.false_eq_true, ↓reduceIte])
        | (refine W.unwanted q5 rfl rfl ?_; walk_nrm)
        | (refine W.opk q5 rfl rfl (by k_ne) (fun w₁ h₁ K hK => by go_simp; exact hK) (fun w₁ h₁ => by simp [go_sem, *]) ?_; try w_num)
        | refine W.ret q5 ?_
        | (refine W.call q5 rfl rfl (by k_ne) rfl H.f_uAdd (nm_uAdd L) rfl ?_; walk_nrmf uAddFn)
        | (refine W.call q5 rfl rfl (by k_ne) rfl H.f_uLoad (nm_uLoad L) rfl ?_; walk_nrmf uLoadFn)
        | (refine W.call q5 rfl rfl (by k_ne) rfl H.f_uStore (nm_uStore L) rfl ?_; walk_nrmf uStoreFn)
        | (refine W.call q5 rfl rfl (by k_ne) rfl H.f_uCas (nm_uCas L) rfl ?_; walk_nrmf uCasFn)
        | (refine W.leave1 q5 rfl rfl H.f_uAdd rfl ?_; walk_nrm)
        | (refine W.leave1 q5 rfl rfl H.f_uLoad rfl ?_; walk_nrm)
        | (refine W.leave0 q5 rfl rfl H.f_uStore rfl ?_; walk_nrm)
        | (refine W.leave1 q5 rfl rfl H.f_uCas rfl ?_; walk_nrm)
        | (refine W.defer q5 rfl rfl (by k_ne) rfl ?_; walk_nrm)
        | (refine W.idle rfl (fun _ => stepG_entry_pure (.bool false) rfl rfl (by k_ne) rfl H.f_inBubble (x_inBubble_n L) (x_inBubble_b L) (x_inBubble_x L) (x_inBubble_f L)) q5 ?_; walk_nrm)
      refine W.word .acq rfl rfl rfl (fun s => rfl) rfl rfl (fun w₁ h₁ => stepG_mark0 .enable (by simp) rfl rfl (by k_ne) rfl H.f_enable (x_enable_n L) (x_enable_b L) (x_enable_x L) (x_enable_f L)) ?_
      walk_nrm
      repeat first
        | refine W.seq q6 ?_
        | refine W.skip q6 ?_
        | refine W.regionEnd q6 ?_
        | refine W.block q6 ?_
        | refine W.inBlock q6 ?_
        | (refine W.region q6 ?_; simp only [List.size_toArray, List.length_cons, List.length_nil, Nat.reduceAdd, Nat.zero_add, List.range, List.range.loop])
        | (refine W.cond q6 rfl ?_; simp only [if_true, if_false, Bool.false_eq_true, ↓reduceIte])
        | (refine W.unwanted q6 rfl rfl ?_; walk_nrm)
        | (refine W.opk q6 rfl rfl (by k_ne) (fun w₁ h₁ K hK => by go_simp; exact hK) (fun w₁ h₁ => by simp [go_sem, *]) ?_; try w_num)
        | refine W.ret q6 ?_
        | (refine W.call q6 rfl rfl (by k_ne) rfl H.f_uAdd (nm_uAdd L) rfl ?_; walk_nrmf uAddFn)
        | (refine W.call q6 rfl rfl (by k_ne) rfl H.f_uLoad (nm_uLoad L) rfl ?_; walk_nrmf uLoadFn)
        | (refine W.call q6 rfl rfl (by k_ne) rfl H.f_uStore (nm_uStore L) rfl ?_; walk_nrmf uStoreFn)
        | (refine W.call q6 rfl rfl (by k_ne) rfl H.f_uCas (nm_uCas L) rfl ?_; walk_nrmf uCasFn)
        | (refine W.leave1 q6 rfl rfl H.f_uAdd rfl ?_; walk_nrm)
        | (refine W.leave1 q6 rfl rfl H.f_uLoad rfl ?_; walk_nrm)
        | (refine W.leave0 q6 rfl rfl H.f_uStore rfl ?_; walk_nrm)
        | (refine W.leave1 q6 rfl rfl H.f_uCas rfl ?_; walk_nrm)
        | (refine W.defer q6 rfl rfl (by k_ne) rfl ?_; walk_nrm)
        | (refine W.idle rfl (fun _ => stepG_entry_pure (.bool false) rfl rfl (by k_ne) rfl H.f_inBubble (x_inBubble_n L) (x_inBubble_b L) (x_inBubble_x L) (x_inBubble_f L)) q6 ?_; walk_nrm)
      refine W.opk q6 rfl rfl (by k_ne) (fun w₁ h₁ K hK => by have hce := (WgLive.cell0 (hty ▸ live_rely h₁ hw)).choose_spec; have hcv := run_convert_to_unsafe (P := P) H.underlying_tWgP H.underlying_tUP H.room_tWg hce; go_simp; exact hK) (fun w₁ h₁ => by have hce := (WgLive.cell0 (hty ▸ live_rely h₁ hw)).choose_spec; have hcv := fun es => events_convert_to_unsafe (P := P) H.underlying_tWgP H.underlying_tUP H.room_tWg hce es; simp [go_sem, hcv]) ?_
      try w_num
      refine W.word .ret rfl rfl rfl (fun s => rfl) rfl rfl (fun w₁ h₁ => stepG_markAt .acquire (by simp) rfl rfl (by k_ne) rfl H.f_acquire (x_acquire_n L) (x_acquire_b L) (x_acquire_x L) (x_acquire_f L) (by simp [Act.eval, stA])) ?_
      walk_nrm
      repeat first
        | refine W.seq q7 ?_
        | refine W.skip q7 ?_
        | refine W.regionEnd q7 ?_
        | refine W.block q7 ?_
        | refine W.inBlock q7 ?_
        | (refine W.region q7 ?_; simp only [List.size_toArray, List.length_cons, List.length_nil, Nat.reduceAdd, Nat.zero_add, List.range, List.range.loop])
        | (refine W.cond q7 rfl ?_; simp only [if_true, if_false, Bool.false_eq_true, ↓reduceIte])
        | (refine W.unwanted q7 rfl rfl ?_; walk_nrm)
        | (refine W.opk q7 rfl rfl (by k_ne) (fun w₁ h₁ K hK => by go_simp; exact hK) (fun w₁ h₁ => by simp [go_sem, *]) ?_; try w_num)
        | refine W.ret q7 ?_
        | (refine W.call q7 rfl rfl (by k_ne) rfl H.f_uAdd (nm_uAdd L) rfl ?_; walk_nrmf uAddFn)
        | (refine W.call q7 rfl rfl (by k_ne) rfl H.f_uLoad (nm_uLoad L) rfl ?_; walk_nrmf uLoadFn)
        | (refine W.call q7 rfl rfl (by k_ne) rfl H.f_uStore (nm_uStore L) rfl ?_; walk_nrmf uStoreFn)
        | (refine W.call q7 rfl rfl (by k_ne) rfl H.f_uCas (nm_uCas L) rfl ?_; walk_nrmf uCasFn)
        | (refine W.leave1 q7 rfl rfl H.f_uAdd rfl ?_; walk_nrm)
        | (refine W.leave1 q7 rfl rfl H.f_uLoad rfl ?_; walk_nrm)
        | (refine W.leave0 q7 rfl rfl H.f_uStore rfl ?_; walk_nrm)
        | (refine W.leave1 q7 rfl rfl H.f_uCas rfl ?_; walk_nrm)
        | (refine W.defer q7 rfl rfl (by k_ne) rfl ?_; walk_nrm)
        | (refine W.idle rfl (fun _ => stepG_entry_pure (.bool false) rfl rfl (by k_ne) rfl H.f_inBubble (x_inBubble_n L) (x_inBubble_b L) (x_inBubble_x L) (x_inBubble_f L)) q7 ?_; walk_nrm)
      refine W.leave0 q7 rfl rfl H.f_wait rfl ?_
      walk_nrm
      exact hT
    · clear hS hn
      walk_nrm
      repeat first
        | refine W.seq q1 ?_
        | refine W.skip q1 ?_
        | refine W.regionEnd q1 ?_
        | refine W.block q1 ?_
        | refine W.inBlock q1 ?_
        | (refine W.region q1 ?_; simp only [List.size_toArray, List.length_cons, List.length_nil, Nat.reduceAdd, Nat.zero_add, List.range, List.range.loop])
        | (refine W.cond q1 rfl ?_; simp only [if_true, if_false, Bool.false_eq_true, ↓reduceIte])
        | (refine W.unwanted q1 rfl rfl ?_; walk_nrm)
        | (refine W.opk q1 rfl rfl (by k_ne) (fun w₁ h₁ K hK => by go_simp; exact hK) (fun w₁ h₁ => by simp [go_sem, *]) ?_; try w_num)
        | refine W.ret q1 ?_
        | (refine W.call q1 rfl rfl (by k_ne) rfl H.f_uAdd (nm_uAdd L) rfl ?_; walk_nrmf uAddFn)
        | (refine W.call q1 rfl rfl (by k_ne) rfl H.f_uLoad (nm_uLoad L) rfl ?_; walk_nrmf uLoadFn)
        | (refine W.call q1 rfl rfl (by k_ne) rfl H.f_uStore (nm_uStore L) rfl ?_; walk_nrmf uStoreFn)
        | (refine W.call q1 rfl rfl (by k_ne) rfl H.f_uCas (nm_uCas L) rfl ?_; walk_nrmf uCasFn)
        | (refine W.leave1 q1 rfl rfl H.f_uAdd rfl ?_; walk_nrm)
        | (refine W.leave1 q1 rfl rfl H.f_uLoad rfl ?_; walk_nrm)
        | (refine W.leave0 q1 rfl rfl H.f_uStore rfl ?_; walk_nrm)
        | (refine W.leave1 q1 rfl rfl H.f_uCas rfl ?_; walk_nrm)
        | (refine W.defer q1 rfl rfl (by k_ne) rfl ?_; walk_nrm)
        | (refine W.idle rfl (fun _ => stepG_entry_pure (.bool false) rfl rfl (by k_ne) rfl H.f_inBubble (x_inBubble_n L) (x_inBubble_b L) (x_inBubble_x L) (x_inBubble_f L)) q1 ?_; walk_nrm)
      refine W.inLoop q1 ?_
      exact hA _ ⟨_, rfl, by simp, by simp⟩
end
end Go.Proofs.Ytboiolnnhmlieaa.Gang

