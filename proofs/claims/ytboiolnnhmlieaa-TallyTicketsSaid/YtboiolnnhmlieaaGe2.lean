
/-
  THE BRIDGE: what a call does alone on every tape, it does beside leavers. THE BRIDGE, its end: a contract of a call alone, on every tape, is a contract beside leavers.
  Conditions: stated lemma by lemma.
-/
import Derived.Test.YtboiolnnhmlieaaGe1
import Derived.Test.YtboiolnnhmlieaaGc8
namespace Go.Proofs.Ytboiolnnhmlieaa.Brd
open Go.Conc Go.ConcN Go.Proofs.Ytboiolnnhmlieaa.Gang
set_option linter.unusedVariables false
set_option linter.unusedSimpArgs false
section
variable (P : Program) (Γ : FuncId → Option FT) (A n0 : Nat)
open Classical in
noncomputable def kindOf (s : St) : Kind St :=
  if s.stop = true then .stop
  else if h : Inv P Γ A n0 s ∧ ∃ s', Still P Γ A n0 s s' then .still h.2.choose
  else if h : Inv P Γ A n0 s ∧ ∃ f, Draws P Γ A n0 s f then .draw h.2.choose
  else .dead
/-- the frame to which the lone call returns: it goes no further -/
def c0 : Frame := { (default : Frame) with todo := [.code (.refuse "")], defers := [{ target := .fn (.func P.funcs.size) #[], args := #[] }], mode := .run, kind := .normal }
variable {P Γ A n0}
theorem kind_stop {s : St} (h : s.stop = true) : kindOf P Γ A n0 s = .stop := by unfold kindOf; rw [if_pos h]
theorem stop_of_kind {s : St} (h : kindOf P Γ A n0 s = .stop) : s.stop = true := by
  unfold kindOf at h
  split at h
  · assumption
  · split at h
    · cases h
    · split at h <;> cases h
theorem still_of_kind {s s' : St} (h : kindOf P Γ A n0 s = .still s') : Still P Γ A n0 s s' := by
  unfold kindOf at h
  split at h
  · cases h
  · split at h
    · next hx =>
      injection h with h
      subst h
      exact hx.2.choose_spec
    · split at h <;> cases h
theorem draw_of_kind {s : St} {f : Nat → St} (h : kindOf P Γ A n0 s = .draw f) : Draws P Γ A n0 s f := by
  unfold kindOf at h
  split at h
  · cases h
  · split at h
    · cases h
    · split at h
      · next hx =>
        injection h with h
        subst h
        exact hx.2.choose_spec
      · cases h
theorem dead_of_kind {s : St} (hΓ : GamOk (A := A) (n0 := n0) P Γ) (hi : Inv P Γ A n0 s) (h : kindOf P Γ A n0 s = .dead) : Dies P s := by
  unfold kindOf at h
  split at h
  · cases h
  · next h1 =>
    split at h
    · cases h
    · next h2 =>
      split at h
      · cases h
      · next h3 =>
        rcases progress hΓ hi with g | g | g | g
        · exact absurd g h1
        · exact absurd ⟨hi, g⟩ h2
        · exact absurd ⟨hi, g⟩ h3
        · exact g
/-! the lone machine -/
def St.lone (s : St) (w : World) : Machine := Go.lone s.top.frame (s.rest.map Fr.frame ++ [c0 P]) w
theorem lone_still {s s' : St} (h : Still P Γ A n0 s s') {w : World} (hw : w.heap = s.h) : step P (s.lone (P := P) w) = .next (s'.lone (P := P) { w with heap := s'.h }) := by
  obtain ⟨es, _, hs⟩ := h.2.2 w [c0 P] hw
  refine step_lone_go ?_
  have : stepG P true (s.g [c0 P]) w = .go (s'.g [c0 P]) { w with heap := s'.h } es := hs
  unfold St.g G at this
  rw [this]
  rfl
theorem lone_draw {s : St} {f : Nat → St} (h : Draws P Γ A n0 s f) {w : World} {t : Nat → Nat} (hw : w.heap = s.h) (ht : w.tape = fun j _ => t j) : step P (s.lone (P := P) w) = .next ((f (t w.drawn)).lone (P := P) { w with drawn := w.drawn + 1 }) := by
  obtain ⟨q, hq⟩ := h
  have hs := (hq (t w.drawn)).2.2 w [c0 P] hw (by rw [ht])
  refine step_lone_go ?_
  unfold St.g G at hs
  rw [hs]
  rfl
theorem c0_panics {chain : List PanicEntry} {w : World} : ∃ o w', step P (Go.lone ((c0 P).raise chain) [] w) = .ended o w' := by
  have h : ∃ o w', (stepG P true { frame := (c0 P).raise chain, callers := [], status := .running, dying := none } w).bare = .ended o w' := by
    simp [c0, Frame.raise, stepG, unwind, callDeferred, invoke, callFunc, program, stuck, Bind.bind, Sem.bind, Sem.run, GStep.after, GStep.bare]
  obtain ⟨o, w', h⟩ := h
  exact ⟨o, w', step_lone_ended h⟩
theorem c0_ends {w : World} : ∃ o w', step P (Go.lone (c0 P) [] w) = .ended o w' := by
  have h : ∃ o w', (stepG P true { frame := c0 P, callers := [], status := .running, dying := none } w).bare = .ended o w' := by
    simp [c0, stepG, stepG.exec, GStep.after, GStep.bare]
  obtain ⟨o, w', h⟩ := h
  exact ⟨o, w', step_lone_ended h⟩
/-- what panics does not come back -/
theorem panic_lost : ∀ (ys : List Fr) (fr : Frame) (chain : List PanicEntry) (w : World) (N : Nat) (fr' : Frame) (w' : World), (∃ fn, P.funcs[fr.fn]? = some fn) → fr.defers = [] → (∀ y ∈ ys, y.ret = false ∧ ∃ fn, P.funcs[y.f]? = some fn) →
    runN P N (Go.lone { fr with mode := .panicking chain } (ys.map Fr.frame ++ [c0 P]) w) = .next (Go.lone fr' [c0 P] w') → fr'.mode = .returning → False
  | ys, fr, chain, w, 0, fr', w', _, _, _, h, hm => by
    simp only [runN, Stepped.next.injEq, Go.lone, Machine.mk.injEq] at h
    have := h.2.1
    simp at this
    rw [← this.1] at hm
    cases hm
  | [], fr, chain, w, N + 1, fr', w', hfn, hd, _, h, hm => by
    have hstep := step_leave_panicked (P := P) (fr := { fr with mode := .panicking chain }) (c := c0 P) (cs := []) (w := w) (chain := chain) ⟨rfl, hd, hfn⟩
    rw [List.map_nil, List.nil_append, runN, hstep] at h
    simp only [] at h
    cases N with
    | zero =>
      simp only [runN, Stepped.next.injEq, Go.lone, Machine.mk.injEq] at h
      have := h.2.1
      simp at this
    | succ N =>
      obtain ⟨o, w2, he⟩ := c0_panics (P := P) (chain := chain) (w := w)
      rw [runN, he] at h
      cases h
  | y :: ys, fr, chain, w, N + 1, fr', w', hfn, hd, hys, h, hm => by
    have hstep := step_leave_panicked (P := P) (fr := { fr with mode := .panicking chain }) (c := y.frame) (cs := ys.map Fr.frame ++ [c0 P]) (w := w) (chain := chain) ⟨rfl, hd, hfn⟩
    rw [List.map_cons, List.cons_append, runN, hstep] at h
    simp only [] at h
    obtain ⟨hr, hyf⟩ := hys y (List.mem_cons_self ..)
    have hfr : y.frame = (base y.f).at ⟨y.tmps, []⟩ y.todo := by unfold Fr.frame; rw [hr]; rfl
    rw [hfr, Frame.raise_at] at h
    exact panic_lost ys ((base y.f).at ⟨y.tmps, []⟩ y.todo) chain w N fr' w' hyf rfl (fun z hz => hys z (List.mem_cons_of_mem _ hz)) h hm
theorem callers_funcs (hΓ : GamOk (A := A) (n0 := n0) P Γ) : ∀ (ys : List Fr) (ft : FT), CallersOk P Γ A n0 ft ys → ∀ y ∈ ys, y.ret = false ∧ ∃ fn, P.funcs[y.f]? = some fn
  | [], _, _, y, h => by cases h
  | z :: zs, ft, ⟨h1, ft', h2, _, h4⟩, y, h => by
    rcases List.mem_cons.1 h with rfl | h
    · obtain ⟨fn, _, hf, _⟩ := hΓ _ _ h2.gam
      exact ⟨h1, fn, hf⟩
    · exact callers_funcs hΓ zs ft' h4 y h
theorem dies_lost (hΓ : GamOk (A := A) (n0 := n0) P Γ) {s : St} (hi : Inv P Γ A n0 s) (hd : Dies P s) {w w' : World} (hw : w.heap = s.h) {N : Nat} {fr' : Frame} (h : runN P N (s.lone (P := P) w) = .next (Go.lone fr' [c0 P] w')) (hm : fr'.mode = .returning) : False := by
  have htop : s.top.frame = (base s.top.f).at ⟨s.top.tmps, []⟩ s.top.todo := by unfold Fr.frame; rw [hd.1]; rfl
  obtain ⟨ft, hfo, hcs⟩ := hi.ok
  obtain ⟨fn, _, hf, _⟩ := hΓ _ _ hfo.gam
  cases N with
  | zero =>
    simp only [runN, Stepped.next.injEq, St.lone, Go.lone, Machine.mk.injEq] at h
    have := h.2.1
    simp at this
    rw [← this.1, htop] at hm
    cases hm
  | succ N =>
    rcases hd.2 w [c0 P] hw with ⟨o, w2, es, hs⟩ | ⟨chain, w2, es, hs⟩
    · have : step P (s.lone (P := P) w) = .ended o w2 := step_lone_ended (by
        unfold St.g G at hs
        rw [hs]; rfl)
      rw [runN, this] at h
      cases h
    · have : step P (s.lone (P := P) w) = .next (Go.lone { s.top.frame with mode := .panicking chain } (s.rest.map Fr.frame ++ [c0 P]) w2) := step_lone_go (by
        unfold St.g G at hs
        rw [hs]; rfl)
      rw [runN, this] at h
      exact panic_lost s.rest s.top.frame chain w2 N fr' w' (by rw [htop]; exact ⟨fn, hf⟩) (by rw [htop]; rfl) (callers_funcs hΓ _ _ hcs) h hm
/-- behind the return the lone machine goes no further -/
theorem stop_last (hΓ : GamOk (A := A) (n0 := n0) P Γ) {s : St} (hi : Inv P Γ A n0 s) (hst : s.stop = true) {w w' : World} {N : Nat} {fr' : Frame} (h : runN P N (s.lone (P := P) w) = .next (Go.lone fr' [c0 P] w')) : fr' = s.top.frame ∧ w' = w := by
  obtain ⟨h0, top, rest⟩ := s
  simp only [St.stop, Bool.and_eq_true, List.isEmpty_iff] at hst
  obtain ⟨rfl, hret⟩ := hst
  obtain ⟨ft, hfo, hcs⟩ := hi.ok
  obtain ⟨fn, c, hf, _, _, _, _, hres⟩ := hΓ _ _ hfo.gam
  cases N with
  | zero =>
    simp only [runN, Stepped.next.injEq, St.lone, Go.lone, Machine.mk.injEq] at h
    have h2 := h.2.1
    simp at h2
    exact ⟨h2.symm, h.1.symm⟩
  | succ N =>
    exfalso
    have hv : ∃ v, (results fn top.tmps).run P w = .ok v w := by
      rcases hres with hr | ⟨t, hr, hk⟩ | ⟨t, u, l, hr, hk, hl⟩
      · exact ⟨_, results_none hr _ P w⟩
      · exact ⟨_, results_tmp hr _ P w⟩
      · exact ⟨_, results_tmp2 hr _ P w⟩
    obtain ⟨v, hv⟩ := hv
    have hfr : top.frame = { (base top.f).at ⟨top.tmps, []⟩ top.todo with mode := .returning } := by unfold Fr.frame; rw [if_pos hret]
    have hstep := step_leave_returned (P := P) (fr := top.frame) (c := c0 P) (cs := []) (w := w) (v := v) (by rw [hfr]; exact ⟨rfl, rfl, rfl, fn, hf, hv⟩)
    simp only [St.lone, List.map_nil, List.nil_append] at h
    rw [runN, hstep] at h
    simp only [] at h
    have hfin : (c0 P).finish v = c0 P := rfl
    rw [hfin] at h
    cases N with
    | zero =>
      simp only [runN, Stepped.next.injEq, Go.lone, Machine.mk.injEq] at h
      have := h.2.1
      simp at this
    | succ N =>
      obtain ⟨o, w2, he⟩ := c0_ends (P := P) (w := w)
      rw [runN, he] at h
      cases h
/-- the lone run is a run of the abstract machine -/
theorem lone_runs (hΓ : GamOk (A := A) (n0 := n0) P Γ) {t : Nat → Nat} : ∀ (N : Nat) (s : St) (w : World), Inv P Γ A n0 s → w.heap = s.h → w.tape = (fun j _ => t j) → ∀ {fr' : Frame} {w' : World}, runN P N (s.lone (P := P) w) = .next (Go.lone fr' [c0 P] w') → fr'.mode = .returning →
    ∃ n s' d', runs (kindOf P Γ A n0) t n s w.drawn = some (s', d') ∧ s'.stop = true ∧ s'.top.frame = fr' ∧ w'.heap = s'.h := by
  intro N
  induction N with
  | zero =>
    intro s w hi hw ht fr' w' h hm
    cases hst : s.stop with
    | true =>
      obtain ⟨h1, h2⟩ := stop_last hΓ hi hst h
      exact ⟨0, s, w.drawn, rfl, hst, h1.symm, by rw [h2]; exact hw⟩
    | false =>
      exfalso
      simp only [runN, Stepped.next.injEq, St.lone, Go.lone, Machine.mk.injEq] at h
      have h2 := h.2.1
      simp at h2
      obtain ⟨h3, h4⟩ := h2
      rw [← h3] at hm
      have hret : s.top.ret = true := by
        cases hr : s.top.ret with
        | true => rfl
        | false =>
          unfold Fr.frame at hm
          rw [hr] at hm
          cases hm
      have : s.rest = [] := by
        cases hrs : s.rest with
        | nil => rfl
        | cons y ys => rw [hrs] at h4; simp at h4
      unfold St.stop at hst
      rw [this, hret] at hst
      cases hst
  | succ N ih =>
    intro s w hi hw ht fr' w' h hm
    cases hk : kindOf P Γ A n0 s with
    | stop =>
      have hst := stop_of_kind hk
      obtain ⟨h1, h2⟩ := stop_last hΓ hi hst h
      exact ⟨0, s, w.drawn, rfl, hst, h1.symm, by rw [h2]; exact hw⟩
    | still s1 =>
      have hs := still_of_kind hk
      rw [runN, lone_still hs hw] at h
      obtain ⟨n, s', d', k1, k2⟩ := ih s1 { w with heap := s1.h } hs.1 rfl ht h hm
      exact ⟨n + 1, s', d', by rw [runs, hk]; exact k1, k2⟩
    | draw f =>
      have hs := draw_of_kind hk
      rw [runN, lone_draw hs hw ht] at h
      obtain ⟨q, hq⟩ := hs
      obtain ⟨g1, g2, _⟩ := hq (t w.drawn)
      obtain ⟨n, s', d', k1, k2⟩ := ih (f (t w.drawn)) { w with drawn := w.drawn + 1 } g1 (by rw [g2]; exact hw) ht h hm
      exact ⟨n + 1, s', d', by rw [runs, hk]; exact k1, k2⟩
    | dead => exact (dies_lost hΓ hi (dead_of_kind hΓ hi hk) hw h hm).elim
end
end Go.Proofs.Ytboiolnnhmlieaa.Brd
namespace Go.Proofs.Ytboiolnnhmlieaa.Brd
open Go.Conc Go.ConcN Go.Proofs.Ytboiolnnhmlieaa.Gang
set_option linter.unusedVariables false
set_option linter.unusedSimpArgs false
section
variable {P : Program} {Γ : FuncId → Option FT} {A n0 : Nat}
theorem evL_safe {X : Cx} {n : Nat} {es : Array Event} (h : SafeE A n0 n es) (hns : ∀ b, Own A n0 b → ∀ o, ¬ X.Sh (.cell ⟨b, o, none⟩)) (hn : n ≤ X.B) : ∀ e ∈ es, EvL X.Sh X.B e := fun e he => by
  obtain ⟨b, o, wr, rfl, h1, h2⟩ := h e he
  exact evL_cell _ _ (hns b h1 o) (Nat.lt_of_lt_of_le h2 hn)
/-- from the tree to the run beside leavers -/
theorem run_of_tree {R : St → Prop} {s : St} (ht : Tree (kindOf P Γ A n0) R s) : ∀ (X : Cx) (w : World) (cs : List Frame), w.heap = s.h → (∀ b, Own A n0 b → ∀ o, ¬ X.Sh (.cell ⟨b, o, none⟩)) →
    (∀ (s' : St) (w' : World), s'.stop = true → R s' → w'.heap = s'.h → GrowsH A n0 s.h s'.h → w'.tape = w.tape → w'.os = w.os → w'.output = w.output → Run P (X.up w'.heap.size) (s'.g cs) w') → Run P X (s.g cs) w := by
  induction ht with
  | stop s h r =>
    intro X w cs hw hns hK
    exact Run.up _ (hK s w (stop_of_kind h) r hw (.refl _) rfl rfl rfl)
  | still s s' h t ih =>
    intro X w cs hw hns hK
    obtain ⟨_, hg, hst⟩ := still_of_kind h
    refine Run.up s'.h.size (Run.step rfl fun w₁ h₁ => ?_)
    obtain ⟨d, rfl⟩ := h₁
    obtain ⟨es, he, hs⟩ := hst (w.at d) cs hw
    refine ⟨_, _, es, hs, evL_safe he hns (Nat.le_max_right _ _), ih _ _ cs rfl hns (fun s2 w2 k1 k2 k3 k4 k5 k6 k7 => ?_)⟩
    rw [Cx.up_up _ (by rw [k3]; exact k4.size)]
    exact hK s2 w2 k1 k2 k3 (hg.trans k4) k5 k6 k7
  | draw s f h t ih =>
    intro X w cs hw hns hK
    obtain ⟨q, hq⟩ := draw_of_kind h
    refine Run.step rfl fun w₁ h₁ => ?_
    obtain ⟨d, rfl⟩ := h₁
    obtain ⟨g1, g2, g3⟩ := hq ((w.at d).tape (w.at d).drawn q)
    refine ⟨_, _, _, g3 (w.at d) cs hw rfl, fun e he => by simp at he, ih _ X _ cs (by rw [g2]; exact hw) hns (fun s2 w2 k1 k2 k3 k4 k5 k6 k7 => ?_)⟩
    exact hK s2 w2 k1 k2 k3 (by rw [g2] at k4; exact k4) k5 k6 k7
/-- THE BRIDGE -/
theorem con_of_calls {X : Cx} {w : World} (hΓ : GamOk (A := A) (n0 := n0) P Γ) {f : FuncId} {ft : FT} (hf : Γ f = some ft) {args : Array Value} (hsz : args.size = ft.params.length) (hargs : ∀ i : Nat, Fit A n0 (ft.params[i]?.getD .any) (args.getD i undef))
    (hi : IntsH A n0 w.heap) (hns : ∀ b, Own A n0 b → ∀ o, ¬ X.Sh (.cell ⟨b, o, none⟩)) {R : Value → Array Obj → Prop}
    (hC : ∀ t : Nat → Nat, Calls P f args { w with tape := fun j _ => t j, drawn := 0 } (fun e w' => ∃ v, e = .returned v ∧ R v w'.heap)) :
    Con P X f args w (fun X' v w' => X' = X.up w'.heap.size ∧ R v w'.heap ∧ w'.tape = w.tape ∧ w'.os = w.os ∧ w'.output = w.output ∧ GrowsH A n0 w.heap w'.heap) := by
  obtain ⟨fn, c, hfn, hname, hb, hcode, hftok, hres⟩ := hΓ f ft hf
  refine ⟨fn, c, hfn, hname, hb, fun b₀ a₀ ops n rest k cs hK => ?_⟩
  let s0 : St := ⟨w.heap, ⟨f, args ++ Array.replicate (fn.ntmps - args.size) undef, [.code c], false⟩, []⟩
  have hinv : Inv P Γ A n0 s0 := ⟨hi, ft, ⟨hf, enter_ok hftok hsz hargs, fun it hit => by
    rw [List.mem_singleton] at hit
    subst hit
    exact hcode⟩, trivial⟩
  have htree : Tree (kindOf P Γ A n0) (fun s => ∃ v, R v s.h ∧ ∃ w', (results fn s.top.tmps).run P w' = .ok v w' ∧ s.top.f = f) s0 := by
    refine tree_of_runs fun t => ?_
    obtain ⟨e, w', fr, ⟨v, rfl, hR⟩, ⟨N, hN⟩, hfr, hlv⟩ := hC t [c0 P]
    rw [enter_at _ hfn hb] at hN
    obtain ⟨m, s', d', k1, k2, k3, k4⟩ := lone_runs hΓ (t := t) N s0 { w with tape := fun j _ => t j, drawn := 0 } hinv rfl rfl hN hlv.1
    obtain ⟨_, _, _, fn', hf', hr'⟩ := hlv
    rw [hfr, hfn] at hf'
    injection hf' with hf'
    subst hf'
    have ht : fr.tmps = s'.top.tmps ∧ fr.fn = s'.top.f := by
      rw [← k3]
      unfold Fr.frame
      split <;> exact ⟨rfl, rfl⟩
    refine ⟨m, s', d', k1, kind_stop k2, v, by rw [← k4]; exact hR, w', by rw [← ht.1]; exact hr', by rw [← ht.2]; exact hfr⟩
  have hrun := run_of_tree htree X w (b₀.at a₀ (.inRegion ops (n :: rest) :: k) :: cs) rfl hns (fun s' w' k1 k2 k3 k4 k5 k6 k7 => ?_)
  · exact hrun
  · obtain ⟨v, hR, w2, hr, hsf⟩ := k2
    obtain ⟨h', ⟨f', tm, td, rt⟩, rs⟩ := s'
    simp only [St.stop, Bool.and_eq_true, List.isEmpty_iff] at k1
    obtain ⟨rfl, hrt⟩ := k1
    obtain rfl : rt = true := hrt
    obtain rfl : f' = f := hsf
    have hK' := hK (X.up w'.heap.size) v w' ⟨rfl, by rw [k3]; exact hR, k5, k6, k7, by rw [k3]; exact k4⟩
    show Run P _ (G { (base f').at ⟨tm, []⟩ td with mode := .returning } (b₀.at a₀ (.inRegion ops (n :: rest) :: k) :: cs)) w'
    rcases hres with he | ⟨t, he, _⟩ | ⟨t, u, l, he, _, _⟩
    · have := results_none he tm P w2
      rw [hr] at this
      injection this with this
      subst this
      exact Run.leave0 rfl rfl hfn he hK'
    · have := results_tmp he tm P w2
      rw [hr] at this
      injection this with this
      subst this
      exact Run.leave1 rfl rfl hfn he hK'
    · have := results_tmp2 he tm P w2
      rw [hr] at this
      injection this with this
      subst this
      exact Run.leave2 rfl rfl hfn he hK'
end
end Go.Proofs.Ytboiolnnhmlieaa.Brd
