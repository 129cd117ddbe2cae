
/-
  A member's way through (*sync.WaitGroup).Add(1).
  Conditions: stated lemma by lemma.
-/
import Derived.Test.YtboiolnnhmlieaaGa11
namespace Go.Proofs.Ytboiolnnhmlieaa.Gang
open Go.Conc Go.ConcN Go.RowKit Go.Conc.Lib Go.ConcR.Gen Go.ConcN.Gen
open Go.ConcR (wgBlock WgAt stA smA rd wr KK)
set_option linter.unusedVariables false
set_option linter.unusedSimpArgs false

section
variable {X Lam : Type} {P : Program} {J : Job P X Lam} {b₀ : Frame} {a₀ : Act} {ops₀ : Array Oper} {i₀ : Nat} {rest₀ : List Nat} {k₀ : List Item} {cs : List Frame} {w : World} {L : WgLink}
set_option maxRecDepth 100000 in
set_option maxHeartbeats 8000000 in
theorem addPos (F : J.Grp) (H : WgLib P L) {k : Nat} (hty : J.ty = L.tWg) (hw : liveAt J.ty J.Wg w) (hT : J.W 0 (.goS k) (G (b₀.at (a₀.put ((ops₀[i₀]?).bind (·.dst)) (.tuple #[])) (.inRegion ops₀ rest₀ :: k₀)) cs) w) :
    J.W 0 (.kdS k) (G ((base L.add).at ⟨#[.pointer (some ⟨J.Wg, 0, none⟩), .int .i64 1, undef, undef, undef, undef, undef, undef, undef, undef, undef, undef, undef, undef, undef, undef, undef, undef, undef, undef, undef, undef, undef, undef, undef, undef, undef, undef, undef, undef, undef, undef, undef, undef, undef, undef, undef, undef, undef, undef, undef, undef, undef, undef, undef, undef, undef, undef, undef, undef, undef, undef, undef, undef, undef, undef, undef, undef, undef, undef, undef, undef, undef, undef, undef, undef, undef, undef, undef, undef, undef, undef, undef, undef, undef, undef, undef, undef, undef, undef, undef, undef, undef, undef, undef, undef, undef, undef, undef, undef, undef, undef, undef, undef, undef, undef, undef, undef, undef, undef, undef, undef, undef, undef, undef, undef, undef, undef, undef, undef, undef, undef, undef, undef, undef, undef, undef], []⟩ [.code (body_add L)]) (b₀.at a₀ (.inRegion ops₀ (i₀ :: rest₀) :: k₀) :: cs)) w := by
  lib_facts
  have q0 : (Pos.kdS k : Pos Lam).quit = false := rfl
  have q1 : (Pos.a1 k : Pos Lam).quit = false := rfl
  have q2 : (Pos.keS k : Pos Lam).quit = false := rfl
  simp only [body_add, addFn, Option.getD_some]
  repeat first
    | refine W.seq q0 ?_
    | refine W.skip q0 ?_
    | refine W.regionEnd q0 ?_
    | refine W.block q0 ?_
    | refine W.inBlock q0 ?_
    | (refine W.region q0 ?_; simp only [List.size_toArray, List.length_cons, List.length_nil, Nat.reduceAdd, Nat.zero_add, List.range, List.range.loop])
    | (refine W.cond q0 rfl ?_; simp only [if_true, if_false, Bool.false_eq_true, ↓reduceIte])
    | (refine W.unwanted q0 rfl rfl ?_; walk_nrm)
    | (refine W.opk q0 rfl rfl (by k_ne) (fun w₁ h₁ K hK => by go_simp; exact hK) (fun w₁ h₁ => by simp [go_sem, *]) ?_; try w_num)
    | refine W.ret q0 ?_
    | (refine W.call q0 rfl rfl (by k_ne) rfl H.f_uAdd (nm_uAdd L) rfl ?_; walk_nrmf uAddFn)
    | (refine W.call q0 rfl rfl (by k_ne) rfl H.f_uLoad (nm_uLoad L) rfl ?_; walk_nrmf uLoadFn)
    | (refine W.call q0 rfl rfl (by k_ne) rfl H.f_uStore (nm_uStore L) rfl ?_; walk_nrmf uStoreFn)
    | (refine W.call q0 rfl rfl (by k_ne) rfl H.f_uCas (nm_uCas L) rfl ?_; walk_nrmf uCasFn)
    | (refine W.leave1 q0 rfl rfl H.f_uAdd rfl ?_; walk_nrm)
    | (refine W.leave1 q0 rfl rfl H.f_uLoad rfl ?_; walk_nrm)
    | (refine W.leave0 q0 rfl rfl H.f_uStore rfl ?_; walk_nrm)
    | (refine W.leave1 q0 rfl rfl H.f_uCas rfl ?_; walk_nrm)
    | (refine W.defer q0 rfl rfl (by k_ne) rfl ?_; walk_nrm)
    | (refine W.idle rfl (fun _ => stepG_entry_pure (.bool false) rfl rfl (by k_ne) rfl H.f_inBubble (x_inBubble_n L) (x_inBubble_b L) (x_inBubble_x L) (x_inBubble_f L)) q0 ?_; walk_nrm)
  refine W.word (.a1 k) rfl rfl rfl (fun s => rfl) rfl rfl (fun w₁ h₁ => stepG_mark0 .disable (by simp) rfl rfl (by k_ne) rfl H.f_disable (x_disable_n L) (x_disable_b L) (x_disable_x L) (x_disable_f L)) ?_
  walk_nrm
  repeat first
    | refine W.seq q1 ?_
    | refine W.skip q1 ?_
    | refine W.regionEnd q1 ?_
    | refine W.block q1 ?_
    | refine W.inBlock q1 ?_
    | (refine W.region q1 ?_; simp only [List.size_toArray, List.length_cons, List.length_nil, Nat.reduceAdd, Nat.zero_add, List.range, List.range.loop])
    | (refine W.cond q1 rfl ?_; simp only [if_true, if_false, Bool.false_eq_true, ↓reduceIte])
    | (refine W.unwanted q1 rfl rfl ?_; walk_nrm)
    | (refine W.opk q1 rfl rfl (by k_ne) (fun w₁ h₁ K hK => by go_simp; exact hK) (fun w₁ h₁ => by simp [go_sem, *]) ?_; try w_num)
    | refine W.ret q1 ?_
    | (refine W.call q1 rfl rfl (by k_ne) rfl H.f_uAdd (nm_uAdd L) rfl ?_; walk_nrmf uAddFn)
    | (refine W.call q1 rfl rfl (by k_ne) rfl H.f_uLoad (nm_uLoad L) rfl ?_; walk_nrmf uLoadFn)
    | (refine W.call q1 rfl rfl (by k_ne) rfl H.f_uStore (nm_uStore L) rfl ?_; walk_nrmf uStoreFn)
    | (refine W.call q1 rfl rfl (by k_ne) rfl H.f_uCas (nm_uCas L) rfl ?_; walk_nrmf uCasFn)
    | (refine W.leave1 q1 rfl rfl H.f_uAdd rfl ?_; walk_nrm)
    | (refine W.leave1 q1 rfl rfl H.f_uLoad rfl ?_; walk_nrm)
    | (refine W.leave0 q1 rfl rfl H.f_uStore rfl ?_; walk_nrm)
    | (refine W.leave1 q1 rfl rfl H.f_uCas rfl ?_; walk_nrm)
    | (refine W.defer q1 rfl rfl (by k_ne) rfl ?_; walk_nrm)
    | (refine W.idle rfl (fun _ => stepG_entry_pure (.bool false) rfl rfl (by k_ne) rfl H.f_inBubble (x_inBubble_n L) (x_inBubble_b L) (x_inBubble_x L) (x_inBubble_f L)) q1 ?_; walk_nrm)
  refine W.a1 F rfl rfl (fun w₁ v hv hg => by
    have hn := F.n31
    have eS : IntKind.u64.wrap ((v : Int) * KK + (0 : Nat) + 4294967296) = ((v + 1 : Nat) : Int) * KK + (0 : Nat) := by rw [IntKind.wrap_u64]; simp only [KK]; omega
    exact (stepG_add_atomic rfl rfl (by k_ne) rfl H.f_addU64 (x_addU64_n L) (x_addU64_b L) (x_addU64_x L) .u64 (x_addU64_f L) rfl rfl hg.cellSt (hg.thaw 0)).trans (by rw [eS]; rfl)) (fun v hv => ?_)
  have hn := F.n31
  rcases Nat.eq_zero_or_pos v with rfl | hvp
  · rw [show ((0 + 1 : Nat) : Int) * KK + ((0 : Nat) : Int) = 4294967296 from rfl]
    walk_nrm
    repeat first
      | refine W.seq q2 ?_
      | refine W.skip q2 ?_
      | refine W.regionEnd q2 ?_
      | refine W.block q2 ?_
      | refine W.inBlock q2 ?_
      | (refine W.region q2 ?_; simp only [List.size_toArray, List.length_cons, List.length_nil, Nat.reduceAdd, Nat.zero_add, List.range, List.range.loop])
      | (refine W.cond q2 rfl ?_; simp only [if_true, if_false, Bool.false_eq_true, ↓reduceIte])
      | (refine W.unwanted q2 rfl rfl ?_; walk_nrm)
      | (refine W.opk q2 rfl rfl (by k_ne) (fun w₁ h₁ K hK => by go_simp; exact hK) (fun w₁ h₁ => by simp [go_sem, *]) ?_; try w_num)
      | refine W.ret q2 ?_
      | (refine W.call q2 rfl rfl (by k_ne) rfl H.f_uAdd (nm_uAdd L) rfl ?_; walk_nrmf uAddFn)
      | (refine W.call q2 rfl rfl (by k_ne) rfl H.f_uLoad (nm_uLoad L) rfl ?_; walk_nrmf uLoadFn)
      | (refine W.call q2 rfl rfl (by k_ne) rfl H.f_uStore (nm_uStore L) rfl ?_; walk_nrmf uStoreFn)
      | (refine W.call q2 rfl rfl (by k_ne) rfl H.f_uCas (nm_uCas L) rfl ?_; walk_nrmf uCasFn)
      | (refine W.leave1 q2 rfl rfl H.f_uAdd rfl ?_; walk_nrm)
      | (refine W.leave1 q2 rfl rfl H.f_uLoad rfl ?_; walk_nrm)
      | (refine W.leave0 q2 rfl rfl H.f_uStore rfl ?_; walk_nrm)
      | (refine W.leave1 q2 rfl rfl H.f_uCas rfl ?_; walk_nrm)
      | (refine W.defer q2 rfl rfl (by k_ne) rfl ?_; walk_nrm)
      | (refine W.idle rfl (fun _ => stepG_entry_pure (.bool false) rfl rfl (by k_ne) rfl H.f_inBubble (x_inBubble_n L) (x_inBubble_b L) (x_inBubble_x L) (x_inBubble_f L)) q2 ?_; walk_nrm)
    refine W.opk q2 rfl rfl (by k_ne) (fun w₁ h₁ K hK => by have hce := (WgLive.cell1 (hty ▸ live_rely h₁ hw)).choose_spec; have hcv := run_convert_to_unsafe (P := P) H.underlying_tPU32 H.underlying_tUP H.room_tU32 hce; go_simp; exact hK) (fun w₁ h₁ => by have hce := (WgLive.cell1 (hty ▸ live_rely h₁ hw)).choose_spec; have hcv := fun es => events_convert_to_unsafe (P := P) H.underlying_tPU32 H.underlying_tUP H.room_tU32 hce es; simp [go_sem, hcv]) ?_
    try w_num
    refine W.said rfl (fun w₁ h₁ => stepG_markAt .read (by simp) rfl rfl (by k_ne) rfl H.f_raceRead (x_raceRead_n L) (x_raceRead_b L) (x_raceRead_x L) (x_raceRead_f L) (ad := ⟨J.Wg, 1, none⟩) (by simp [Act.eval])) (fun w₁ => step_said F _ rfl .read (.inl rfl)) q2 ?_
    walk_nrm
    repeat first
      | refine W.seq q2 ?_
      | refine W.skip q2 ?_
      | refine W.regionEnd q2 ?_
      | refine W.block q2 ?_
      | refine W.inBlock q2 ?_
      | (refine W.region q2 ?_; simp only [List.size_toArray, List.length_cons, List.length_nil, Nat.reduceAdd, Nat.zero_add, List.range, List.range.loop])
      | (refine W.cond q2 rfl ?_; simp only [if_true, if_false, Bool.false_eq_true, ↓reduceIte])
      | (refine W.unwanted q2 rfl rfl ?_; walk_nrm)
      | (refine W.opk q2 rfl rfl (by k_ne) (fun w₁ h₁ K hK => by go_simp; exact hK) (fun w₁ h₁ => by simp [go_sem, *]) ?_; try w_num)
      | refine W.ret q2 ?_
      | (refine W.call q2 rfl rfl (by k_ne) rfl H.f_uAdd (nm_uAdd L) rfl ?_; walk_nrmf uAddFn)
      | (refine W.call q2 rfl rfl (by k_ne) rfl H.f_uLoad (nm_uLoad L) rfl ?_; walk_nrmf uLoadFn)
      | (refine W.call q2 rfl rfl (by k_ne) rfl H.f_uStore (nm_uStore L) rfl ?_; walk_nrmf uStoreFn)
      | (refine W.call q2 rfl rfl (by k_ne) rfl H.f_uCas (nm_uCas L) rfl ?_; walk_nrmf uCasFn)
      | (refine W.leave1 q2 rfl rfl H.f_uAdd rfl ?_; walk_nrm)
      | (refine W.leave1 q2 rfl rfl H.f_uLoad rfl ?_; walk_nrm)
      | (refine W.leave0 q2 rfl rfl H.f_uStore rfl ?_; walk_nrm)
      | (refine W.leave1 q2 rfl rfl H.f_uCas rfl ?_; walk_nrm)
      | (refine W.defer q2 rfl rfl (by k_ne) rfl ?_; walk_nrm)
      | (refine W.idle rfl (fun _ => stepG_entry_pure (.bool false) rfl rfl (by k_ne) rfl H.f_inBubble (x_inBubble_n L) (x_inBubble_b L) (x_inBubble_x L) (x_inBubble_f L)) q2 ?_; walk_nrm)
    refine W.word (.goS k) rfl rfl rfl (fun s => rfl) rfl rfl (fun w₁ h₁ => stepG_unwind_entry (v := .tuple #[]) (evs := #[Go.ConcR.mk .enable]) rfl H.f_enable (x_enable_n L) (x_enable_b L) (x_enable_x L) (x_enable_f L) (by simp [Extern.Race.none_]) (by simp [Go.ConcR.mk]) (by simp [Go.ConcR.mk])) ?_
    refine W.leave0 rfl rfl rfl H.f_add rfl ?_
    walk_nrm
    exact hT
  · obtain ⟨V, hV⟩ : ∃ V : Int, V = ((v + 1 : Nat) : Int) := ⟨_, rfl⟩
    obtain ⟨S, hS⟩ : ∃ S : Int, S = V * KK + ((0 : Nat) : Int) := ⟨_, rfl⟩
    rw [← hV, ← hS]
    have a1 : S / 4294967296 = V := by rw [hS, hV]; simp only [KK]; omega
    have b1 : bits .and .u64 S 2147483648 = 0 := by rw [hS, hV]; have := st_flag (v + 1) 0 (by omega) (by omega); simpa [KK] using this
    have b2 : bits .and .u64 S 2147483647 = 0 := by rw [hS, hV]; have := st_waiters (v + 1) 0 (by omega) (by omega); simpa [KK] using this
    have c1 : IntKind.i32.wrap V = V := by rw [IntKind.wrap_i32]; omega
    have hV1 : 1 < V := by omega
    have z1 : (V == 1) = false := by simp <;> omega
    have z2 : decide (V = 1) = false := decide_eq_false (by omega)
    have z3 : decide (V < 0) = false := decide_eq_false (by omega)
    have z4 : decide (0 < V) = true := decide_eq_true (by omega)
    have z5 : (V == 0) = false := by simp <;> omega
    have z6 : decide (V = 0) = false := decide_eq_false (by omega)
    clear hS hV hV1 hvp hv hn
    walk_nrm
    repeat first
      | refine W.seq q2 ?_
      | refine W.skip q2 ?_
      | refine W.regionEnd q2 ?_
      | refine W.block q2 ?_
      | refine W.inBlock q2 ?_
      | (refine W.region q2 ?_; simp only [List.size_toArray, List.length_cons, List.length_nil, Nat.reduceAdd, Nat.zero_add, List.range, List.range.loop])
      | (refine W.cond q2 rfl ?_; simp only [if_true, if_false, Bool.false_eq_true, ↓reduceIte])
      | (refine W.unwanted q2 rfl rfl ?_; walk_nrm)
      | (refine W.opk q2 rfl rfl (by k_ne) (fun w₁ h₁ K hK => by go_simp; exact hK) (fun w₁ h₁ => by simp [go_sem, *]) ?_; try w_num)
      | refine W.ret q2 ?_
      | (refine W.call q2 rfl rfl (by k_ne) rfl H.f_uAdd (nm_uAdd L) rfl ?_; walk_nrmf uAddFn)
      | (refine W.call q2 rfl rfl (by k_ne) rfl H.f_uLoad (nm_uLoad L) rfl ?_; walk_nrmf uLoadFn)
      | (refine W.call q2 rfl rfl (by k_ne) rfl H.f_uStore (nm_uStore L) rfl ?_; walk_nrmf uStoreFn)
      | (refine W.call q2 rfl rfl (by k_ne) rfl H.f_uCas (nm_uCas L) rfl ?_; walk_nrmf uCasFn)
      | (refine W.leave1 q2 rfl rfl H.f_uAdd rfl ?_; walk_nrm)
      | (refine W.leave1 q2 rfl rfl H.f_uLoad rfl ?_; walk_nrm)
      | (refine W.leave0 q2 rfl rfl H.f_uStore rfl ?_; walk_nrm)
      | (refine W.leave1 q2 rfl rfl H.f_uCas rfl ?_; walk_nrm)
      | (refine W.defer q2 rfl rfl (by k_ne) rfl ?_; walk_nrm)
      | (refine W.idle rfl (fun _ => stepG_entry_pure (.bool false) rfl rfl (by k_ne) rfl H.f_inBubble (x_inBubble_n L) (x_inBubble_b L) (x_inBubble_x L) (x_inBubble_f L)) q2 ?_; walk_nrm)
    refine W.word (.goS k) rfl rfl rfl (fun s => rfl) rfl rfl (fun w₁ h₁ => stepG_unwind_entry (v := .tuple #[]) (evs := #[Go.ConcR.mk .enable]) rfl H.f_enable (x_enable_n L) (x_enable_b L) (x_enable_x L) (x_enable_f L) (by simp [Extern.Race.none_]) (by simp [Go.ConcR.mk]) (by simp [Go.ConcR.mk])) ?_
    refine W.leave0 rfl rfl rfl H.f_add rfl ?_
    walk_nrm
    exact hT
end
end Go.Proofs.Ytboiolnnhmlieaa.Gang

