
/-
  THE BRIDGE: what a call does alone on every tape, it does beside leavers. THE BRIDGE, its end: a contract of a call alone, on every tape, is a contract beside leavers. The kinds of the slots of slices.Sort's functions. Contract: slices.Sort at []int64, alone. Goroutine 0 beside leavers: slices.Sort at any length.
  Conditions: stated lemma by lemma.
-/
import Derived.Test.YtboiolnnhmlieaaGe1
import Derived.Test.YtboiolnnhmlieaaGc8
import Derived.Test.YtboiolnnhmlieaaChecked
import Derived.Test.YtboiolnnhmlieaaProg
import Derived.Shelf.SortM.Plain
import Derived.Test.YtboiolnnhmlieaaGc13
namespace Go.Proofs.Ytboiolnnhmlieaa.Brd
open Go.Conc Go.ConcN Go.Proofs.Ytboiolnnhmlieaa.Gang
set_option linter.unusedVariables false
set_option linter.unusedSimpArgs false
section
variable (P : Program) (Γ : FuncId → Option FT) (A n0 : Nat)
open Classical in
noncomputable def kindOf (s : St) : Kind St :=
  if s.stop = true then .stop
  else if h : Inv P Γ A n0 s ∧ ∃ s', Still P Γ A n0 s s' then .still h.2.choose
  else if h : Inv P Γ A n0 s ∧ ∃ f, Draws P Γ A n0 s f then .draw h.2.choose
  else .dead
/-- the frame to which the lone call returns: it goes no further -/
def c0 : Frame := { (default : Frame) with todo := [.code (.refuse "")], defers := [{ target := .fn (.func P.funcs.size) #[], args := #[] }], mode := .run, kind := .normal }
variable {P Γ A n0}
theorem kind_stop {s : St} (h : s.stop = true) : kindOf P Γ A n0 s = .stop := by unfold kindOf; rw [if_pos h]
theorem stop_of_kind {s : St} (h : kindOf P Γ A n0 s = .stop) : s.stop = true := by
  unfold kindOf at h
  split at h
  · assumption
  · split at h
    · cases h
    · split at h <;> cases h
theorem still_of_kind {s s' : St} (h : kindOf P Γ A n0 s = .still s') : Still P Γ A n0 s s' := by
  unfold kindOf at h
  split at h
  · cases h
  · split at h
    · next hx =>
      injection h with h
      subst h
      exact hx.2.choose_spec
    · split at h <;> cases h
theorem draw_of_kind {s : St} {f : Nat → St} (h : kindOf P Γ A n0 s = .draw f) : Draws P Γ A n0 s f := by
  unfold kindOf at h
  split at h
  · cases h
  · split at h
    · cases h
    · split at h
      · next hx =>
        injection h with h
        subst h
        exact hx.2.choose_spec
      · cases h
theorem dead_of_kind {s : St} (hΓ : GamOk (A := A) (n0 := n0) P Γ) (hi : Inv P Γ A n0 s) (h : kindOf P Γ A n0 s = .dead) : Dies P s := by
  unfold kindOf at h
  split at h
  · cases h
  · next h1 =>
    split at h
    · cases h
    · next h2 =>
      split at h
      · cases h
      · next h3 =>
        rcases progress hΓ hi with g | g | g | g
        · exact absurd g h1
        · exact absurd ⟨hi, g⟩ h2
        · exact absurd ⟨hi, g⟩ h3
        · exact g
/-! the lone machine -/
def St.lone (s : St) (w : World) : Machine := Go.lone s.top.frame (s.rest.map Fr.frame ++ [c0 P]) w
theorem lone_still {s s' : St} (h : Still P Γ A n0 s s') {w : World} (hw : w.heap = s.h) : step P (s.lone (P := P) w) = .next (s'.lone (P := P) { w with heap := s'.h }) := by
  obtain ⟨es, _, hs⟩ := h.2.2 w [c0 P] hw
  refine step_lone_go ?_
  have : stepG P true (s.g [c0 P]) w = .go (s'.g [c0 P]) { w with heap := s'.h } es := hs
  unfold St.g G at this
  rw [this]
  rfl
theorem lone_draw {s : St} {f : Nat → St} (h : Draws P Γ A n0 s f) {w : World} {t : Nat → Nat} (hw : w.heap = s.h) (ht : w.tape = fun j _ => t j) : step P (s.lone (P := P) w) = .next ((f (t w.drawn)).lone (P := P) { w with drawn := w.drawn + 1 }) := by
  obtain ⟨q, hq⟩ := h
  have hs := (hq (t w.drawn)).2.2 w [c0 P] hw (by rw [ht])
  refine step_lone_go ?_
  unfold St.g G at hs
  rw [hs]
  rfl
theorem c0_panics {chain : List PanicEntry} {w : World} : ∃ o w', step P (Go.lone ((c0 P).raise chain) [] w) = .ended o w' := by
  have h : ∃ o w', (stepG P true { frame := (c0 P).raise chain, callers := [], status := .running, dying := none } w).bare = .ended o w' := by
    simp [c0, Frame.raise, stepG, unwind, callDeferred, invoke, callFunc, program, stuck, Bind.bind, Sem.bind, Sem.run, GStep.after, GStep.bare]
  obtain ⟨o, w', h⟩ := h
  exact ⟨o, w', step_lone_ended h⟩
theorem c0_ends {w : World} : ∃ o w', step P (Go.lone (c0 P) [] w) = .ended o w' := by
  have h : ∃ o w', (stepG P true { frame := c0 P, callers := [], status := .running, dying := none } w).bare = .ended o w' := by
    simp [c0, stepG, stepG.exec, GStep.after, GStep.bare]
  obtain ⟨o, w', h⟩ := h
  exact ⟨o, w', step_lone_ended h⟩
/-- what panics does not come back -/
theorem panic_lost : ∀ (ys : List Fr) (fr : Frame) (chain : List PanicEntry) (w : World) (N : Nat) (fr' : Frame) (w' : World), (∃ fn, P.funcs[fr.fn]? = some fn) → fr.defers = [] → (∀ y ∈ ys, y.ret = false ∧ ∃ fn, P.funcs[y.f]? = some fn) →
    runN P N (Go.lone { fr with mode := .panicking chain } (ys.map Fr.frame ++ [c0 P]) w) = .next (Go.lone fr' [c0 P] w') → fr'.mode = .returning → False
  | ys, fr, chain, w, 0, fr', w', _, _, _, h, hm => by
    simp only [runN, Stepped.next.injEq, Go.lone, Machine.mk.injEq] at h
    have := h.2.1
    simp at this
    rw [← this.1] at hm
    cases hm
  | [], fr, chain, w, N + 1, fr', w', hfn, hd, _, h, hm => by
    have hstep := step_leave_panicked (P := P) (fr := { fr with mode := .panicking chain }) (c := c0 P) (cs := []) (w := w) (chain := chain) ⟨rfl, hd, hfn⟩
    rw [List.map_nil, List.nil_append, runN, hstep] at h
    simp only [] at h
    cases N with
    | zero =>
      simp only [runN, Stepped.next.injEq, Go.lone, Machine.mk.injEq] at h
      have := h.2.1
      simp at this
    | succ N =>
      obtain ⟨o, w2, he⟩ := c0_panics (P := P) (chain := chain) (w := w)
      rw [runN, he] at h
      cases h
  | y :: ys, fr, chain, w, N + 1, fr', w', hfn, hd, hys, h, hm => by
    have hstep := step_leave_panicked (P := P) (fr := { fr with mode := .panicking chain }) (c := y.frame) (cs := ys.map Fr.frame ++ [c0 P]) (w := w) (chain := chain) ⟨rfl, hd, hfn⟩
    rw [List.map_cons, List.cons_append, runN, hstep] at h
    simp only [] at h
    obtain ⟨hr, hyf⟩ := hys y (List.mem_cons_self ..)
    have hfr : y.frame = (base y.f).at ⟨y.tmps, []⟩ y.todo := by unfold Fr.frame; rw [hr]; rfl
    rw [hfr, Frame.raise_at] at h
    exact panic_lost ys ((base y.f).at ⟨y.tmps, []⟩ y.todo) chain w N fr' w' hyf rfl (fun z hz => hys z (List.mem_cons_of_mem _ hz)) h hm
theorem callers_funcs (hΓ : GamOk (A := A) (n0 := n0) P Γ) : ∀ (ys : List Fr) (ft : FT), CallersOk P Γ A n0 ft ys → ∀ y ∈ ys, y.ret = false ∧ ∃ fn, P.funcs[y.f]? = some fn
  | [], _, _, y, h => by cases h
  | z :: zs, ft, ⟨h1, ft', h2, _, h4⟩, y, h => by
    rcases List.mem_cons.1 h with rfl | h
    · obtain ⟨fn, _, hf, _⟩ := hΓ _ _ h2.gam
      exact ⟨h1, fn, hf⟩
    · exact callers_funcs hΓ zs ft' h4 y h
theorem dies_lost (hΓ : GamOk (A := A) (n0 := n0) P Γ) {s : St} (hi : Inv P Γ A n0 s) (hd : Dies P s) {w w' : World} (hw : w.heap = s.h) {N : Nat} {fr' : Frame} (h : runN P N (s.lone (P := P) w) = .next (Go.lone fr' [c0 P] w')) (hm : fr'.mode = .returning) : False := by
  have htop : s.top.frame = (base s.top.f).at ⟨s.top.tmps, []⟩ s.top.todo := by unfold Fr.frame; rw [hd.1]; rfl
  obtain ⟨ft, hfo, hcs⟩ := hi.ok
  obtain ⟨fn, _, hf, _⟩ := hΓ _ _ hfo.gam
  cases N with
  | zero =>
    simp only [runN, Stepped.next.injEq, St.lone, Go.lone, Machine.mk.injEq] at h
    have := h.2.1
    simp at this
    rw [← this.1, htop] at hm
    cases hm
  | succ N =>
    rcases hd.2 w [c0 P] hw with ⟨o, w2, es, hs⟩ | ⟨chain, w2, es, hs⟩
    · have : step P (s.lone (P := P) w) = .ended o w2 := step_lone_ended (by
        unfold St.g G at hs
        rw [hs]; rfl)
      rw [runN, this] at h
      cases h
    · have : step P (s.lone (P := P) w) = .next (Go.lone { s.top.frame with mode := .panicking chain } (s.rest.map Fr.frame ++ [c0 P]) w2) := step_lone_go (by
        unfold St.g G at hs
        rw [hs]; rfl)
      rw [runN, this] at h
      exact panic_lost s.rest s.top.frame chain w2 N fr' w' (by rw [htop]; exact ⟨fn, hf⟩) (by rw [htop]; rfl) (callers_funcs hΓ _ _ hcs) h hm
/-- behind the return the lone machine goes no further -/
theorem stop_last (hΓ : GamOk (A := A) (n0 := n0) P Γ) {s : St} (hi : Inv P Γ A n0 s) (hst : s.stop = true) {w w' : World} {N : Nat} {fr' : Frame} (h : runN P N (s.lone (P := P) w) = .next (Go.lone fr' [c0 P] w')) : fr' = s.top.frame ∧ w' = w := by
  obtain ⟨h0, top, rest⟩ := s
  simp only [St.stop, Bool.and_eq_true, List.isEmpty_iff] at hst
  obtain ⟨rfl, hret⟩ := hst
  obtain ⟨ft, hfo, hcs⟩ := hi.ok
  obtain ⟨fn, c, hf, _, _, _, _, hres⟩ := hΓ _ _ hfo.gam
  cases N with
  | zero =>
    simp only [runN, Stepped.next.injEq, St.lone, Go.lone, Machine.mk.injEq] at h
    have h2 := h.2.1
    simp at h2
    exact ⟨h2.symm, h.1.symm⟩
  | succ N =>
    exfalso
    have hv : ∃ v, (results fn top.tmps).run P w = .ok v w := by
      rcases hres with hr | ⟨t, hr, hk⟩ | ⟨t, u, l, hr, hk, hl⟩
      · exact ⟨_, results_none hr _ P w⟩
      · exact ⟨_, results_tmp hr _ P w⟩
      · exact ⟨_, results_tmp2 hr _ P w⟩
    obtain ⟨v, hv⟩ := hv
    have hfr : top.frame = { (base top.f).at ⟨top.tmps, []⟩ top.todo with mode := .returning } := by unfold Fr.frame; rw [if_pos hret]
    have hstep := step_leave_returned (P := P) (fr := top.frame) (c := c0 P) (cs := []) (w := w) (v := v) (by rw [hfr]; exact ⟨rfl, rfl, rfl, fn, hf, hv⟩)
    simp only [St.lone, List.map_nil, List.nil_append] at h
    rw [runN, hstep] at h
    simp only [] at h
    have hfin : (c0 P).finish v = c0 P := rfl
    rw [hfin] at h
    cases N with
    | zero =>
      simp only [runN, Stepped.next.injEq, Go.lone, Machine.mk.injEq] at h
      have := h.2.1
      simp at this
    | succ N =>
      obtain ⟨o, w2, he⟩ := c0_ends (P := P) (w := w)
      rw [runN, he] at h
      cases h
/-- the lone run is a run of the abstract machine -/
theorem lone_runs (hΓ : GamOk (A := A) (n0 := n0) P Γ) {t : Nat → Nat} : ∀ (N : Nat) (s : St) (w : World), Inv P Γ A n0 s → w.heap = s.h → w.tape = (fun j _ => t j) → ∀ {fr' : Frame} {w' : World}, runN P N (s.lone (P := P) w) = .next (Go.lone fr' [c0 P] w') → fr'.mode = .returning →
    ∃ n s' d', runs (kindOf P Γ A n0) t n s w.drawn = some (s', d') ∧ s'.stop = true ∧ s'.top.frame = fr' ∧ w'.heap = s'.h := by
  intro N
  induction N with
  | zero =>
    intro s w hi hw ht fr' w' h hm
    cases hst : s.stop with
    | true =>
      obtain ⟨h1, h2⟩ := stop_last hΓ hi hst h
      exact ⟨0, s, w.drawn, rfl, hst, h1.symm, by rw [h2]; exact hw⟩
    | false =>
      exfalso
      simp only [runN, Stepped.next.injEq, St.lone, Go.lone, Machine.mk.injEq] at h
      have h2 := h.2.1
      simp at h2
      obtain ⟨h3, h4⟩ := h2
      rw [← h3] at hm
      have hret : s.top.ret = true := by
        cases hr : s.top.ret with
        | true => rfl
        | false =>
          unfold Fr.frame at hm
          rw [hr] at hm
          cases hm
      have : s.rest = [] := by
        cases hrs : s.rest with
        | nil => rfl
        | cons y ys => rw [hrs] at h4; simp at h4
      unfold St.stop at hst
      rw [this, hret] at hst
      cases hst
  | succ N ih =>
    intro s w hi hw ht fr' w' h hm
    cases hk : kindOf P Γ A n0 s with
    | stop =>
      have hst := stop_of_kind hk
      obtain ⟨h1, h2⟩ := stop_last hΓ hi hst h
      exact ⟨0, s, w.drawn, rfl, hst, h1.symm, by rw [h2]; exact hw⟩
    | still s1 =>
      have hs := still_of_kind hk
      rw [runN, lone_still hs hw] at h
      obtain ⟨n, s', d', k1, k2⟩ := ih s1 { w with heap := s1.h } hs.1 rfl ht h hm
      exact ⟨n + 1, s', d', by rw [runs, hk]; exact k1, k2⟩
    | draw f =>
      have hs := draw_of_kind hk
      rw [runN, lone_draw hs hw ht] at h
      obtain ⟨q, hq⟩ := hs
      obtain ⟨g1, g2, _⟩ := hq (t w.drawn)
      obtain ⟨n, s', d', k1, k2⟩ := ih (f (t w.drawn)) { w with drawn := w.drawn + 1 } g1 (by rw [g2]; exact hw) ht h hm
      exact ⟨n + 1, s', d', by rw [runs, hk]; exact k1, k2⟩
    | dead => exact (dies_lost hΓ hi (dead_of_kind hΓ hi hk) hw h hm).elim
end
end Go.Proofs.Ytboiolnnhmlieaa.Brd
namespace Go.Proofs.Ytboiolnnhmlieaa.Brd
open Go.Conc Go.ConcN Go.Proofs.Ytboiolnnhmlieaa.Gang
set_option linter.unusedVariables false
set_option linter.unusedSimpArgs false
section
variable {P : Program} {Γ : FuncId → Option FT} {A n0 : Nat}
theorem evL_safe {X : Cx} {n : Nat} {es : Array Event} (h : SafeE A n0 n es) (hns : ∀ b, Own A n0 b → ∀ o, ¬ X.Sh (.cell ⟨b, o, none⟩)) (hn : n ≤ X.B) : ∀ e ∈ es, EvL X.Sh X.B e := fun e he => by
  obtain ⟨b, o, wr, rfl, h1, h2⟩ := h e he
  exact evL_cell _ _ (hns b h1 o) (Nat.lt_of_lt_of_le h2 hn)
/-- from the tree to the run beside leavers -/
theorem run_of_tree {R : St → Prop} {s : St} (ht : Tree (kindOf P Γ A n0) R s) : ∀ (X : Cx) (w : World) (cs : List Frame), w.heap = s.h → (∀ b, Own A n0 b → ∀ o, ¬ X.Sh (.cell ⟨b, o, none⟩)) →
    (∀ (s' : St) (w' : World), s'.stop = true → R s' → w'.heap = s'.h → GrowsH A n0 s.h s'.h → w'.tape = w.tape → w'.os = w.os → w'.output = w.output → Run P (X.up w'.heap.size) (s'.g cs) w') → Run P X (s.g cs) w := by
  induction ht with
  | stop s h r =>
    intro X w cs hw hns hK
    exact Run.up _ (hK s w (stop_of_kind h) r hw (.refl _) rfl rfl rfl)
  | still s s' h t ih =>
    intro X w cs hw hns hK
    obtain ⟨_, hg, hst⟩ := still_of_kind h
    refine Run.up s'.h.size (Run.step rfl fun w₁ h₁ => ?_)
    obtain ⟨d, rfl⟩ := h₁
    obtain ⟨es, he, hs⟩ := hst (w.at d) cs hw
    refine ⟨_, _, es, hs, evL_safe he hns (Nat.le_max_right _ _), ih _ _ cs rfl hns (fun s2 w2 k1 k2 k3 k4 k5 k6 k7 => ?_)⟩
    rw [Cx.up_up _ (by rw [k3]; exact k4.size)]
    exact hK s2 w2 k1 k2 k3 (hg.trans k4) k5 k6 k7
  | draw s f h t ih =>
    intro X w cs hw hns hK
    obtain ⟨q, hq⟩ := draw_of_kind h
    refine Run.step rfl fun w₁ h₁ => ?_
    obtain ⟨d, rfl⟩ := h₁
    obtain ⟨g1, g2, g3⟩ := hq ((w.at d).tape (w.at d).drawn q)
    refine ⟨_, _, _, g3 (w.at d) cs hw rfl, fun e he => by simp at he, ih _ X _ cs (by rw [g2]; exact hw) hns (fun s2 w2 k1 k2 k3 k4 k5 k6 k7 => ?_)⟩
    exact hK s2 w2 k1 k2 k3 (by rw [g2] at k4; exact k4) k5 k6 k7
/-- THE BRIDGE -/
theorem con_of_calls {X : Cx} {w : World} (hΓ : GamOk (A := A) (n0 := n0) P Γ) {f : FuncId} {ft : FT} (hf : Γ f = some ft) {args : Array Value} (hsz : args.size = ft.params.length) (hargs : ∀ i : Nat, Fit A n0 (ft.params[i]?.getD .any) (args.getD i undef))
    (hi : IntsH A n0 w.heap) (hns : ∀ b, Own A n0 b → ∀ o, ¬ X.Sh (.cell ⟨b, o, none⟩)) {R : Value → Array Obj → Prop}
    (hC : ∀ t : Nat → Nat, Calls P f args { w with tape := fun j _ => t j, drawn := 0 } (fun e w' => ∃ v, e = .returned v ∧ R v w'.heap)) :
    Con P X f args w (fun X' v w' => X' = X.up w'.heap.size ∧ R v w'.heap ∧ w'.tape = w.tape ∧ w'.os = w.os ∧ w'.output = w.output ∧ GrowsH A n0 w.heap w'.heap) := by
  obtain ⟨fn, c, hfn, hname, hb, hcode, hftok, hres⟩ := hΓ f ft hf
  refine ⟨fn, c, hfn, hname, hb, fun b₀ a₀ ops n rest k cs hK => ?_⟩
  let s0 : St := ⟨w.heap, ⟨f, args ++ Array.replicate (fn.ntmps - args.size) undef, [.code c], false⟩, []⟩
  have hinv : Inv P Γ A n0 s0 := ⟨hi, ft, ⟨hf, enter_ok hftok hsz hargs, fun it hit => by
    rw [List.mem_singleton] at hit
    subst hit
    exact hcode⟩, trivial⟩
  have htree : Tree (kindOf P Γ A n0) (fun s => ∃ v, R v s.h ∧ ∃ w', (results fn s.top.tmps).run P w' = .ok v w' ∧ s.top.f = f) s0 := by
    refine tree_of_runs fun t => ?_
    obtain ⟨e, w', fr, ⟨v, rfl, hR⟩, ⟨N, hN⟩, hfr, hlv⟩ := hC t [c0 P]
    rw [enter_at _ hfn hb] at hN
    obtain ⟨m, s', d', k1, k2, k3, k4⟩ := lone_runs hΓ (t := t) N s0 { w with tape := fun j _ => t j, drawn := 0 } hinv rfl rfl hN hlv.1
    obtain ⟨_, _, _, fn', hf', hr'⟩ := hlv
    rw [hfr, hfn] at hf'
    injection hf' with hf'
    subst hf'
    have ht : fr.tmps = s'.top.tmps ∧ fr.fn = s'.top.f := by
      rw [← k3]
      unfold Fr.frame
      split <;> exact ⟨rfl, rfl⟩
    refine ⟨m, s', d', k1, kind_stop k2, v, by rw [← k4]; exact hR, w', by rw [← ht.1]; exact hr', by rw [← ht.2]; exact hfr⟩
  have hrun := run_of_tree htree X w (b₀.at a₀ (.inRegion ops (n :: rest) :: k) :: cs) rfl hns (fun s' w' k1 k2 k3 k4 k5 k6 k7 => ?_)
  · exact hrun
  · obtain ⟨v, hR, w2, hr, hsf⟩ := k2
    obtain ⟨h', ⟨f', tm, td, rt⟩, rs⟩ := s'
    simp only [St.stop, Bool.and_eq_true, List.isEmpty_iff] at k1
    obtain ⟨rfl, hrt⟩ := k1
    obtain rfl : rt = true := hrt
    obtain rfl : f' = f := hsf
    have hK' := hK (X.up w'.heap.size) v w' ⟨rfl, by rw [k3]; exact hR, k5, k6, k7, by rw [k3]; exact k4⟩
    show Run P _ (G { (base f').at ⟨tm, []⟩ td with mode := .returning } (b₀.at a₀ (.inRegion ops (n :: rest) :: k) :: cs)) w'
    rcases hres with he | ⟨t, he, _⟩ | ⟨t, u, l, he, _, _⟩
    · have := results_none he tm P w2
      rw [hr] at this
      injection this with this
      subst this
      exact Run.leave0 rfl rfl hfn he hK'
    · have := results_tmp he tm P w2
      rw [hr] at this
      injection this with this
      subst this
      exact Run.leave1 rfl rfl hfn he hK'
    · have := results_tmp2 he tm P w2
      rw [hr] at this
      injection this with this
      subst this
      exact Run.leave2 rfl rfl hfn he hK'
end
end Go.Proofs.Ytboiolnnhmlieaa.Brd
namespace Go.Proofs.Ytboiolnnhmlieaa.Brd
open Go.Conc Go.ConcN Go.Proofs.Ytboiolnnhmlieaa.Gang
set_option linter.unusedVariables false
set_option linter.unusedSimpArgs false
set_option maxRecDepth 100000
def paramsOk (ft : FT) : Bool := (List.range ft.params.length).all fun i => (ft.kinds.getD i .any).same (ft.params.getD i .any)
theorem paramsOk_ok {ft : FT} (h : paramsOk ft = true) : ft.ok := fun i hi => by
  unfold paramsOk at h
  rw [List.all_eq_true] at h
  have := Kd.same_eq (h i (List.mem_range.2 hi))
  rw [this, List.getD_eq_getElem?_getD, List.getElem?_eq_getElem hi]
  rfl
def sck (b : Bool) : Kd := if b then .int else .bool
theorem fit_pair {A n0 : Nat} {a b : Bool} {v w : Value} (hv : Fit A n0 (sck a) v) (hw : Fit A n0 (sck b) w) : Fit A n0 (.tup [a, b]) (.tuple #[v, w]) := by
  refine ⟨#[v, w], rfl, fun i x hx => ?_⟩
  match i with
  | 0 =>
    obtain rfl : v = x := by simpa using hx
    cases a <;> exact hv
  | 1 =>
    obtain rfl : w = x := by simpa using hx
    cases b <;> exact hw
  | i + 2 => simp at hx
def ft36 : FT := ⟨[.slice], #[.slice, .any, .int, .slice, .int, .slice, .int, .int, .int, .int, .any], .any⟩
def ft61 : FT := ⟨[.slice, .int, .int, .int], #[.slice, .int, .int, .int, .any, .any, .any, .any, .bool, .bool, .int, .int, .int, .int, .int, .bool, .int, .int, .int, .int, .int, .int, .int, .bool, .slice, .int, .int, .any, .int, .bool, .slice, .int, .int, .any, .bool, .bool, .slice, .int, .int, .any, .int, .int, .tup [true, true], .slice, .int, .int, .tup [true, true], .int, .int, .int, .bool, .slice, .int, .int, .any, .int, .int, .int, .int, .int, .int, .bool, .bool, .bool, .bool, .bool, .int, .bool, .bool, .slice, .int, .int, .bool, .int, .bool, .bool, .slice, .int, .int, .ptr, .int, .slice, .int, .ptr, .int, .bool, .bool, .bool, .slice, .int, .int, .int, .int, .int, .tup [true, false], .slice, .int, .int, .int, .tup [true, false], .int, .bool, .bool, .int, .int, .int, .int, .int, .int, .int, .int, .int, .int, .bool, .int, .int, .bool, .slice, .int, .int, .int, .any, .int, .int, .int, .int, .bool, .slice, .int, .int, .int, .int, .any, .int], .any⟩
def ft62 : FT := ⟨[.int], #[.int, .any, .int, .int, .int, .int, .int, .int], .int⟩
def ft74 : FT := ⟨[.slice, .int, .int], #[.slice, .int, .int, .any, .any, .any, .int, .int, .int, .int, .int, .int, .bool, .int, .int, .int, .int, .int, .bool, .bool, .slice, .int, .ptr, .int, .slice, .int, .int, .ptr, .int, .bool, .bool, .int, .int, .slice, .int, .slice, .int, .int, .slice, .int, .int, .ptr, .int, .slice, .int, .ptr, .int, .ptr, .ptr], .any⟩
def ft75 : FT := ⟨[.slice, .int, .int], #[.slice, .int, .int, .any, .any, .any, .int, .int, .int, .int, .int, .int, .int, .int, .int, .int, .int, .int, .int, .bool, .int, .int, .slice, .int, .int, .int, .any, .int, .int, .int, .bool, .int, .int, .slice, .int, .slice, .int, .int, .int, .slice, .int, .int, .int, .ptr, .int, .slice, .int, .ptr, .int, .ptr, .ptr, .slice, .int, .int, .int, .any], .any⟩
def ft76 : FT := ⟨[.slice, .int, .int], #[.slice, .int, .int, .any, .any, .any, .int, .ptr, .int, .int, .int, .int, .int, .int, .int, .bool, .int, .int, .int, .int, .int, .int, .int, .int, .int, .int, .int, .int, .int, .int, .int, .int, .int, .bool, .int, .int, .int, .int, .int, .int, .int, .int, .int, .bool, .int, .int, .int, .slice, .int, .slice, .int, .int, .int, .slice, .int, .int, .int, .ptr, .int, .slice, .int, .ptr, .int, .ptr, .ptr], .any⟩
def ft77 : FT := ⟨[.slice, .int, .int], #[.slice, .int, .int, .any, .any, .any, .int, .int, .int, .ptr, .int, .int, .int, .int, .int, .int, .int, .int, .int, .int, .int, .int, .int, .int, .int, .int, .int, .int, .int, .int, .int, .int, .bool, .int, .bool, .slice, .int, .int, .slice, .int, .int, .slice, .int, .int, .slice, .int, .int, .int, .int, .int, .int, .bool, .bool, .int, .bool, .bool, .int], .tup [true, true]⟩
def ft78 : FT := ⟨[.slice, .int, .int], #[.slice, .int, .int, .any, .any, .any, .int, .int, .int, .int, .int, .int, .int, .bool, .slice, .int, .slice, .int, .slice, .int, .ptr, .int, .slice, .int, .ptr, .int, .ptr, .ptr, .int, .int, .int, .int], .any⟩
def ft79 : FT := ⟨[.slice, .int, .int], #[.slice, .int, .int, .any, .any, .any, .bool, .int, .int, .int, .int, .int, .int, .int, .bool, .int, .int, .int, .int, .bool, .bool, .slice, .int, .ptr, .int, .slice, .int, .int, .ptr, .int, .bool, .bool, .bool, .int, .int, .int, .int, .bool, .int, .int, .int, .bool, .slice, .int, .slice, .int, .int, .slice, .int, .int, .ptr, .int, .slice, .int, .ptr, .int, .ptr, .ptr, .int, .int, .int, .bool, .int, .int, .int, .bool, .int, .int, .slice, .int, .ptr, .int, .slice, .int, .int, .ptr, .int, .bool, .bool, .slice, .int, .slice, .int, .int, .slice, .int, .int, .ptr, .int, .slice, .int, .ptr, .int, .ptr, .ptr, .int, .int, .int, .bool, .int, .int, .int, .int, .bool, .int, .int, .slice, .int, .ptr, .int, .slice, .int, .int, .ptr, .int, .bool, .bool, .slice, .int, .slice, .int, .int, .slice, .int, .int, .ptr, .int, .slice, .int, .ptr, .int, .ptr, .ptr], .bool⟩
def ft80 : FT := ⟨[.int, .int], #[.int, .int, .any, .any, .bool, .int, .bool, .bool, .int, .bool, .bool, .bool, .bool, .int, .int, .bool, .bool], .bool⟩
def ft81 : FT := ⟨[.slice, .int, .int, .int], #[.slice, .int, .int, .int, .any, .any, .any, .any, .int, .int, .int, .slice, .int, .slice, .int, .slice, .int, .ptr, .int, .slice, .int, .ptr, .int, .ptr, .ptr, .int, .int, .int, .int, .int, .int, .bool, .bool, .slice, .int, .ptr, .int, .slice, .int, .ptr, .int, .bool, .bool, .bool, .int, .int, .int, .int, .bool, .bool, .slice, .int, .ptr, .int, .slice, .int, .ptr, .int, .bool, .bool, .int, .int, .int, .int, .bool, .slice, .int, .slice, .int, .slice, .int, .ptr, .int, .slice, .int, .ptr, .int, .ptr, .ptr, .int, .int, .int, .int, .int], .int⟩
def ft82 : FT := ⟨[.slice, .int, .int, .int], #[.slice, .int, .int, .int, .any, .any, .any, .any, .int, .bool, .int, .int, .slice, .int, .slice, .int, .slice, .int, .ptr, .int, .slice, .int, .ptr, .int, .ptr, .ptr, .int, .int, .int, .int, .int, .int, .bool, .bool, .slice, .int, .ptr, .int, .slice, .int, .ptr, .int, .bool, .bool, .int, .int, .int, .int, .bool, .bool, .slice, .int, .ptr, .int, .slice, .int, .ptr, .int, .bool, .bool, .bool, .int, .int, .int, .int, .bool, .slice, .int, .slice, .int, .slice, .int, .ptr, .int, .slice, .int, .ptr, .int, .ptr, .ptr, .int, .slice, .int, .slice, .int, .slice, .int, .ptr, .int, .slice, .int, .ptr, .int, .ptr, .ptr, .int, .int, .int, .int, .int, .int, .bool, .bool, .slice, .int, .ptr, .int, .slice, .int, .ptr, .int, .bool, .bool, .int, .int, .int, .int, .bool, .bool, .slice, .int, .ptr, .int, .slice, .int, .ptr, .int, .bool, .bool, .bool, .int, .int, .int, .int, .bool, .slice, .int, .slice, .int, .slice, .int, .ptr, .int, .slice, .int, .ptr, .int, .ptr, .ptr, .int, .int, .int, .int, .slice, .int, .slice, .int, .slice, .int, .ptr, .int, .slice, .int, .ptr, .int, .ptr, .ptr, .int], .tup [true, false]⟩
def ft83 : FT := ⟨[.int], #[.int, .any, .int, .int, .bool, .int, .int, .int, .bool, .int, .int, .int, .int, .int, .int, .int, .int, .int, .int], .int⟩
def ft84 : FT := ⟨[.int], #[.int, .any, .int, .int, .bool, .int, .int, .int, .bool, .int, .int, .int, .int, .int, .bool, .int, .int, .int, .int, .int, .int, .int, .int, .int, .int], .int⟩
def ft89 : FT := ⟨[.slice, .int, .int, .int], #[.slice, .int, .int, .int, .any, .any, .any, .any, .int, .int, .int, .int, .int, .int, .int, .int, .bool, .int, .int, .int, .bool, .bool, .slice, .int, .int, .int, .ptr, .int, .slice, .int, .int, .int, .int, .ptr, .int, .bool, .bool, .int, .int, .slice, .int, .int, .int, .ptr, .int, .slice, .int, .int, .int, .ptr, .int, .bool, .bool, .slice, .int, .int, .int, .slice, .int, .int, .int, .slice, .int, .int, .int, .ptr, .int, .slice, .int, .int, .int, .ptr, .int, .ptr, .ptr, .int], .any⟩
def ft90 : FT := ⟨[.int], #[.int, .any, .int, .int, .int, .int, .int], .int⟩
def ft91 : FT := ⟨[.ptr], #[.ptr, .any, .int, .ptr, .ptr, .int, .ptr, .ptr, .int, .int, .int, .ptr, .ptr, .ptr, .int, .ptr, .ptr, .int, .int, .int, .ptr, .ptr, .ptr, .int, .ptr, .ptr, .int, .int, .int, .ptr, .ptr, .ptr, .int], .int⟩
def ft92 : FT := ⟨[.slice, .int, .ptr], #[.slice, .int, .ptr, .any, .any, .any, .int, .slice, .int, .int, .int, .int, .int, .ptr, .int], .int⟩
def ft93 : FT := ⟨[.slice, .int, .int, .int, .ptr], #[.slice, .int, .int, .int, .ptr, .any, .any, .any, .any, .any, .int, .tup [true, true], .slice, .int, .int, .ptr, .tup [true, true], .int, .int, .tup [true, true], .slice, .int, .int, .ptr, .tup [true, true], .int, .int, .tup [true, true], .slice, .int, .int, .ptr, .tup [true, true], .int, .int, .int], .int⟩
def ft94 : FT := ⟨[.int], #[.int, .any, .bool, .int, .int, .bool], .bool⟩
def ft99 : FT := ⟨[.slice, .int, .int, .ptr], #[.slice, .int, .int, .ptr, .any, .any, .any, .any, .int, .int, .slice, .int, .ptr, .int, .slice, .int, .ptr, .int, .bool, .ptr, .ptr, .int, .int, .ptr, .int, .int, .int, .int], .tup [true, true]⟩
def gam : FuncId → Option FT
  | 36 => some ft36
  | 61 => some ft61
  | 62 => some ft62
  | 74 => some ft74
  | 75 => some ft75
  | 76 => some ft76
  | 77 => some ft77
  | 78 => some ft78
  | 79 => some ft79
  | 80 => some ft80
  | 81 => some ft81
  | 82 => some ft82
  | 83 => some ft83
  | 84 => some ft84
  | 89 => some ft89
  | 90 => some ft90
  | 91 => some ft91
  | 92 => some ft92
  | 93 => some ft93
  | 94 => some ft94
  | 99 => some ft99
  | _ => none
theorem gam36 {A n0 : Nat} : ∃ fn c, Try.prog.funcs[(36 : Nat)]? = some fn ∧ (fn.name == "runtime.NumGoroutine") = false ∧ fn.body = some c ∧ codeOk Try.prog gam ft36 c = true ∧ ft36.ok ∧
  ((fn.results = #[]) ∨ (∃ t, fn.results = #[.tmp t] ∧ (ft36.kinds.getD t .any).sub ft36.res = true) ∨ ∃ t u l, fn.results = #[.tmp t, .tmp u] ∧ ft36.res = .tup l ∧
    (∀ v w : Value, Fit A n0 (ft36.kinds.getD t .any) v → Fit A n0 (ft36.kinds.getD u .any) w → Fit A n0 (.tup l) (.tuple #[v, w]))) :=
  ⟨Try.f36, _, Try.func36, by kernel_rfl, rfl, by kernel_rfl, paramsOk_ok (by kernel_rfl), .inl rfl⟩
theorem gam61 {A n0 : Nat} : ∃ fn c, Try.prog.funcs[(61 : Nat)]? = some fn ∧ (fn.name == "runtime.NumGoroutine") = false ∧ fn.body = some c ∧ codeOk Try.prog gam ft61 c = true ∧ ft61.ok ∧
  ((fn.results = #[]) ∨ (∃ t, fn.results = #[.tmp t] ∧ (ft61.kinds.getD t .any).sub ft61.res = true) ∨ ∃ t u l, fn.results = #[.tmp t, .tmp u] ∧ ft61.res = .tup l ∧
    (∀ v w : Value, Fit A n0 (ft61.kinds.getD t .any) v → Fit A n0 (ft61.kinds.getD u .any) w → Fit A n0 (.tup l) (.tuple #[v, w]))) :=
  ⟨Try.f61, _, Try.func61, by kernel_rfl, rfl, by kernel_rfl, paramsOk_ok (by kernel_rfl), .inl rfl⟩
theorem gam62 {A n0 : Nat} : ∃ fn c, Try.prog.funcs[(62 : Nat)]? = some fn ∧ (fn.name == "runtime.NumGoroutine") = false ∧ fn.body = some c ∧ codeOk Try.prog gam ft62 c = true ∧ ft62.ok ∧
  ((fn.results = #[]) ∨ (∃ t, fn.results = #[.tmp t] ∧ (ft62.kinds.getD t .any).sub ft62.res = true) ∨ ∃ t u l, fn.results = #[.tmp t, .tmp u] ∧ ft62.res = .tup l ∧
    (∀ v w : Value, Fit A n0 (ft62.kinds.getD t .any) v → Fit A n0 (ft62.kinds.getD u .any) w → Fit A n0 (.tup l) (.tuple #[v, w]))) :=
  ⟨Try.f62, _, Try.func62, by kernel_rfl, rfl, by kernel_rfl, paramsOk_ok (by kernel_rfl), .inr (.inl ⟨2, rfl, by kernel_rfl⟩)⟩
theorem gam74 {A n0 : Nat} : ∃ fn c, Try.prog.funcs[(74 : Nat)]? = some fn ∧ (fn.name == "runtime.NumGoroutine") = false ∧ fn.body = some c ∧ codeOk Try.prog gam ft74 c = true ∧ ft74.ok ∧
  ((fn.results = #[]) ∨ (∃ t, fn.results = #[.tmp t] ∧ (ft74.kinds.getD t .any).sub ft74.res = true) ∨ ∃ t u l, fn.results = #[.tmp t, .tmp u] ∧ ft74.res = .tup l ∧
    (∀ v w : Value, Fit A n0 (ft74.kinds.getD t .any) v → Fit A n0 (ft74.kinds.getD u .any) w → Fit A n0 (.tup l) (.tuple #[v, w]))) :=
  ⟨Try.f74, _, Try.func74, by kernel_rfl, rfl, by kernel_rfl, paramsOk_ok (by kernel_rfl), .inl rfl⟩
theorem gam75 {A n0 : Nat} : ∃ fn c, Try.prog.funcs[(75 : Nat)]? = some fn ∧ (fn.name == "runtime.NumGoroutine") = false ∧ fn.body = some c ∧ codeOk Try.prog gam ft75 c = true ∧ ft75.ok ∧
  ((fn.results = #[]) ∨ (∃ t, fn.results = #[.tmp t] ∧ (ft75.kinds.getD t .any).sub ft75.res = true) ∨ ∃ t u l, fn.results = #[.tmp t, .tmp u] ∧ ft75.res = .tup l ∧
    (∀ v w : Value, Fit A n0 (ft75.kinds.getD t .any) v → Fit A n0 (ft75.kinds.getD u .any) w → Fit A n0 (.tup l) (.tuple #[v, w]))) :=
  ⟨Try.f75, _, Try.func75, by kernel_rfl, rfl, by kernel_rfl, paramsOk_ok (by kernel_rfl), .inl rfl⟩
theorem gam76 {A n0 : Nat} : ∃ fn c, Try.prog.funcs[(76 : Nat)]? = some fn ∧ (fn.name == "runtime.NumGoroutine") = false ∧ fn.body = some c ∧ codeOk Try.prog gam ft76 c = true ∧ ft76.ok ∧
  ((fn.results = #[]) ∨ (∃ t, fn.results = #[.tmp t] ∧ (ft76.kinds.getD t .any).sub ft76.res = true) ∨ ∃ t u l, fn.results = #[.tmp t, .tmp u] ∧ ft76.res = .tup l ∧
    (∀ v w : Value, Fit A n0 (ft76.kinds.getD t .any) v → Fit A n0 (ft76.kinds.getD u .any) w → Fit A n0 (.tup l) (.tuple #[v, w]))) :=
  ⟨Try.f76, _, Try.func76, by kernel_rfl, rfl, by kernel_rfl, paramsOk_ok (by kernel_rfl), .inl rfl⟩
theorem gam77 {A n0 : Nat} : ∃ fn c, Try.prog.funcs[(77 : Nat)]? = some fn ∧ (fn.name == "runtime.NumGoroutine") = false ∧ fn.body = some c ∧ codeOk Try.prog gam ft77 c = true ∧ ft77.ok ∧
  ((fn.results = #[]) ∨ (∃ t, fn.results = #[.tmp t] ∧ (ft77.kinds.getD t .any).sub ft77.res = true) ∨ ∃ t u l, fn.results = #[.tmp t, .tmp u] ∧ ft77.res = .tup l ∧
    (∀ v w : Value, Fit A n0 (ft77.kinds.getD t .any) v → Fit A n0 (ft77.kinds.getD u .any) w → Fit A n0 (.tup l) (.tuple #[v, w]))) :=
  ⟨Try.f77, _, Try.func77, by kernel_rfl, rfl, by kernel_rfl, paramsOk_ok (by kernel_rfl), .inr (.inr ⟨6, 7, _, rfl, rfl, fun v w hv hw => fit_pair (a := true) (b := true) hv hw⟩)⟩
theorem gam78 {A n0 : Nat} : ∃ fn c, Try.prog.funcs[(78 : Nat)]? = some fn ∧ (fn.name == "runtime.NumGoroutine") = false ∧ fn.body = some c ∧ codeOk Try.prog gam ft78 c = true ∧ ft78.ok ∧
  ((fn.results = #[]) ∨ (∃ t, fn.results = #[.tmp t] ∧ (ft78.kinds.getD t .any).sub ft78.res = true) ∨ ∃ t u l, fn.results = #[.tmp t, .tmp u] ∧ ft78.res = .tup l ∧
    (∀ v w : Value, Fit A n0 (ft78.kinds.getD t .any) v → Fit A n0 (ft78.kinds.getD u .any) w → Fit A n0 (.tup l) (.tuple #[v, w]))) :=
  ⟨Try.f78, _, Try.func78, by kernel_rfl, rfl, by kernel_rfl, paramsOk_ok (by kernel_rfl), .inl rfl⟩
theorem gam79 {A n0 : Nat} : ∃ fn c, Try.prog.funcs[(79 : Nat)]? = some fn ∧ (fn.name == "runtime.NumGoroutine") = false ∧ fn.body = some c ∧ codeOk Try.prog gam ft79 c = true ∧ ft79.ok ∧
  ((fn.results = #[]) ∨ (∃ t, fn.results = #[.tmp t] ∧ (ft79.kinds.getD t .any).sub ft79.res = true) ∨ ∃ t u l, fn.results = #[.tmp t, .tmp u] ∧ ft79.res = .tup l ∧
    (∀ v w : Value, Fit A n0 (ft79.kinds.getD t .any) v → Fit A n0 (ft79.kinds.getD u .any) w → Fit A n0 (.tup l) (.tuple #[v, w]))) :=
  ⟨Try.f79, _, Try.func79, by kernel_rfl, rfl, by kernel_rfl, paramsOk_ok (by kernel_rfl), .inr (.inl ⟨6, rfl, by kernel_rfl⟩)⟩
theorem gam80 {A n0 : Nat} : ∃ fn c, Try.prog.funcs[(80 : Nat)]? = some fn ∧ (fn.name == "runtime.NumGoroutine") = false ∧ fn.body = some c ∧ codeOk Try.prog gam ft80 c = true ∧ ft80.ok ∧
  ((fn.results = #[]) ∨ (∃ t, fn.results = #[.tmp t] ∧ (ft80.kinds.getD t .any).sub ft80.res = true) ∨ ∃ t u l, fn.results = #[.tmp t, .tmp u] ∧ ft80.res = .tup l ∧
    (∀ v w : Value, Fit A n0 (ft80.kinds.getD t .any) v → Fit A n0 (ft80.kinds.getD u .any) w → Fit A n0 (.tup l) (.tuple #[v, w]))) :=
  ⟨Try.f80, _, Try.func80, by kernel_rfl, rfl, by kernel_rfl, paramsOk_ok (by kernel_rfl), .inr (.inl ⟨4, rfl, by kernel_rfl⟩)⟩
theorem gam81 {A n0 : Nat} : ∃ fn c, Try.prog.funcs[(81 : Nat)]? = some fn ∧ (fn.name == "runtime.NumGoroutine") = false ∧ fn.body = some c ∧ codeOk Try.prog gam ft81 c = true ∧ ft81.ok ∧
  ((fn.results = #[]) ∨ (∃ t, fn.results = #[.tmp t] ∧ (ft81.kinds.getD t .any).sub ft81.res = true) ∨ ∃ t u l, fn.results = #[.tmp t, .tmp u] ∧ ft81.res = .tup l ∧
    (∀ v w : Value, Fit A n0 (ft81.kinds.getD t .any) v → Fit A n0 (ft81.kinds.getD u .any) w → Fit A n0 (.tup l) (.tuple #[v, w]))) :=
  ⟨Try.f81, _, Try.func81, by kernel_rfl, rfl, by kernel_rfl, paramsOk_ok (by kernel_rfl), .inr (.inl ⟨8, rfl, by kernel_rfl⟩)⟩
theorem gam82 {A n0 : Nat} : ∃ fn c, Try.prog.funcs[(82 : Nat)]? = some fn ∧ (fn.name == "runtime.NumGoroutine") = false ∧ fn.body = some c ∧ codeOk Try.prog gam ft82 c = true ∧ ft82.ok ∧
  ((fn.results = #[]) ∨ (∃ t, fn.results = #[.tmp t] ∧ (ft82.kinds.getD t .any).sub ft82.res = true) ∨ ∃ t u l, fn.results = #[.tmp t, .tmp u] ∧ ft82.res = .tup l ∧
    (∀ v w : Value, Fit A n0 (ft82.kinds.getD t .any) v → Fit A n0 (ft82.kinds.getD u .any) w → Fit A n0 (.tup l) (.tuple #[v, w]))) :=
  ⟨Try.f82, _, Try.func82, by kernel_rfl, rfl, by kernel_rfl, paramsOk_ok (by kernel_rfl), .inr (.inr ⟨8, 9, _, rfl, rfl, fun v w hv hw => fit_pair (a := true) (b := false) hv hw⟩)⟩
theorem gam83 {A n0 : Nat} : ∃ fn c, Try.prog.funcs[(83 : Nat)]? = some fn ∧ (fn.name == "runtime.NumGoroutine") = false ∧ fn.body = some c ∧ codeOk Try.prog gam ft83 c = true ∧ ft83.ok ∧
  ((fn.results = #[]) ∨ (∃ t, fn.results = #[.tmp t] ∧ (ft83.kinds.getD t .any).sub ft83.res = true) ∨ ∃ t u l, fn.results = #[.tmp t, .tmp u] ∧ ft83.res = .tup l ∧
    (∀ v w : Value, Fit A n0 (ft83.kinds.getD t .any) v → Fit A n0 (ft83.kinds.getD u .any) w → Fit A n0 (.tup l) (.tuple #[v, w]))) :=
  ⟨Try.f83, _, Try.func83, by kernel_rfl, rfl, by kernel_rfl, paramsOk_ok (by kernel_rfl), .inr (.inl ⟨2, rfl, by kernel_rfl⟩)⟩
theorem gam84 {A n0 : Nat} : ∃ fn c, Try.prog.funcs[(84 : Nat)]? = some fn ∧ (fn.name == "runtime.NumGoroutine") = false ∧ fn.body = some c ∧ codeOk Try.prog gam ft84 c = true ∧ ft84.ok ∧
  ((fn.results = #[]) ∨ (∃ t, fn.results = #[.tmp t] ∧ (ft84.kinds.getD t .any).sub ft84.res = true) ∨ ∃ t u l, fn.results = #[.tmp t, .tmp u] ∧ ft84.res = .tup l ∧
    (∀ v w : Value, Fit A n0 (ft84.kinds.getD t .any) v → Fit A n0 (ft84.kinds.getD u .any) w → Fit A n0 (.tup l) (.tuple #[v, w]))) :=
  ⟨Try.f84, _, Try.func84, by kernel_rfl, rfl, by kernel_rfl, paramsOk_ok (by kernel_rfl), .inr (.inl ⟨2, rfl, by kernel_rfl⟩)⟩
theorem gam89 {A n0 : Nat} : ∃ fn c, Try.prog.funcs[(89 : Nat)]? = some fn ∧ (fn.name == "runtime.NumGoroutine") = false ∧ fn.body = some c ∧ codeOk Try.prog gam ft89 c = true ∧ ft89.ok ∧
  ((fn.results = #[]) ∨ (∃ t, fn.results = #[.tmp t] ∧ (ft89.kinds.getD t .any).sub ft89.res = true) ∨ ∃ t u l, fn.results = #[.tmp t, .tmp u] ∧ ft89.res = .tup l ∧
    (∀ v w : Value, Fit A n0 (ft89.kinds.getD t .any) v → Fit A n0 (ft89.kinds.getD u .any) w → Fit A n0 (.tup l) (.tuple #[v, w]))) :=
  ⟨Try.f89, _, Try.func89, by kernel_rfl, rfl, by kernel_rfl, paramsOk_ok (by kernel_rfl), .inl rfl⟩
theorem gam90 {A n0 : Nat} : ∃ fn c, Try.prog.funcs[(90 : Nat)]? = some fn ∧ (fn.name == "runtime.NumGoroutine") = false ∧ fn.body = some c ∧ codeOk Try.prog gam ft90 c = true ∧ ft90.ok ∧
  ((fn.results = #[]) ∨ (∃ t, fn.results = #[.tmp t] ∧ (ft90.kinds.getD t .any).sub ft90.res = true) ∨ ∃ t u l, fn.results = #[.tmp t, .tmp u] ∧ ft90.res = .tup l ∧
    (∀ v w : Value, Fit A n0 (ft90.kinds.getD t .any) v → Fit A n0 (ft90.kinds.getD u .any) w → Fit A n0 (.tup l) (.tuple #[v, w]))) :=
  ⟨Try.f90, _, Try.func90, by kernel_rfl, rfl, by kernel_rfl, paramsOk_ok (by kernel_rfl), .inr (.inl ⟨2, rfl, by kernel_rfl⟩)⟩
theorem gam91 {A n0 : Nat} : ∃ fn c, Try.prog.funcs[(91 : Nat)]? = some fn ∧ (fn.name == "runtime.NumGoroutine") = false ∧ fn.body = some c ∧ codeOk Try.prog gam ft91 c = true ∧ ft91.ok ∧
  ((fn.results = #[]) ∨ (∃ t, fn.results = #[.tmp t] ∧ (ft91.kinds.getD t .any).sub ft91.res = true) ∨ ∃ t u l, fn.results = #[.tmp t, .tmp u] ∧ ft91.res = .tup l ∧
    (∀ v w : Value, Fit A n0 (ft91.kinds.getD t .any) v → Fit A n0 (ft91.kinds.getD u .any) w → Fit A n0 (.tup l) (.tuple #[v, w]))) :=
  ⟨Try.f91, _, Try.func91, by kernel_rfl, rfl, by kernel_rfl, paramsOk_ok (by kernel_rfl), .inr (.inl ⟨2, rfl, by kernel_rfl⟩)⟩
theorem gam92 {A n0 : Nat} : ∃ fn c, Try.prog.funcs[(92 : Nat)]? = some fn ∧ (fn.name == "runtime.NumGoroutine") = false ∧ fn.body = some c ∧ codeOk Try.prog gam ft92 c = true ∧ ft92.ok ∧
  ((fn.results = #[]) ∨ (∃ t, fn.results = #[.tmp t] ∧ (ft92.kinds.getD t .any).sub ft92.res = true) ∨ ∃ t u l, fn.results = #[.tmp t, .tmp u] ∧ ft92.res = .tup l ∧
    (∀ v w : Value, Fit A n0 (ft92.kinds.getD t .any) v → Fit A n0 (ft92.kinds.getD u .any) w → Fit A n0 (.tup l) (.tuple #[v, w]))) :=
  ⟨Try.f92, _, Try.func92, by kernel_rfl, rfl, by kernel_rfl, paramsOk_ok (by kernel_rfl), .inr (.inl ⟨6, rfl, by kernel_rfl⟩)⟩
theorem gam93 {A n0 : Nat} : ∃ fn c, Try.prog.funcs[(93 : Nat)]? = some fn ∧ (fn.name == "runtime.NumGoroutine") = false ∧ fn.body = some c ∧ codeOk Try.prog gam ft93 c = true ∧ ft93.ok ∧
  ((fn.results = #[]) ∨ (∃ t, fn.results = #[.tmp t] ∧ (ft93.kinds.getD t .any).sub ft93.res = true) ∨ ∃ t u l, fn.results = #[.tmp t, .tmp u] ∧ ft93.res = .tup l ∧
    (∀ v w : Value, Fit A n0 (ft93.kinds.getD t .any) v → Fit A n0 (ft93.kinds.getD u .any) w → Fit A n0 (.tup l) (.tuple #[v, w]))) :=
  ⟨Try.f93, _, Try.func93, by kernel_rfl, rfl, by kernel_rfl, paramsOk_ok (by kernel_rfl), .inr (.inl ⟨10, rfl, by kernel_rfl⟩)⟩
theorem gam94 {A n0 : Nat} : ∃ fn c, Try.prog.funcs[(94 : Nat)]? = some fn ∧ (fn.name == "runtime.NumGoroutine") = false ∧ fn.body = some c ∧ codeOk Try.prog gam ft94 c = true ∧ ft94.ok ∧
  ((fn.results = #[]) ∨ (∃ t, fn.results = #[.tmp t] ∧ (ft94.kinds.getD t .any).sub ft94.res = true) ∨ ∃ t u l, fn.results = #[.tmp t, .tmp u] ∧ ft94.res = .tup l ∧
    (∀ v w : Value, Fit A n0 (ft94.kinds.getD t .any) v → Fit A n0 (ft94.kinds.getD u .any) w → Fit A n0 (.tup l) (.tuple #[v, w]))) :=
  ⟨Try.f94, _, Try.func94, by kernel_rfl, rfl, by kernel_rfl, paramsOk_ok (by kernel_rfl), .inr (.inl ⟨2, rfl, by kernel_rfl⟩)⟩
theorem gam99 {A n0 : Nat} : ∃ fn c, Try.prog.funcs[(99 : Nat)]? = some fn ∧ (fn.name == "runtime.NumGoroutine") = false ∧ fn.body = some c ∧ codeOk Try.prog gam ft99 c = true ∧ ft99.ok ∧
  ((fn.results = #[]) ∨ (∃ t, fn.results = #[.tmp t] ∧ (ft99.kinds.getD t .any).sub ft99.res = true) ∨ ∃ t u l, fn.results = #[.tmp t, .tmp u] ∧ ft99.res = .tup l ∧
    (∀ v w : Value, Fit A n0 (ft99.kinds.getD t .any) v → Fit A n0 (ft99.kinds.getD u .any) w → Fit A n0 (.tup l) (.tuple #[v, w]))) :=
  ⟨Try.f99, _, Try.func99, by kernel_rfl, rfl, by kernel_rfl, paramsOk_ok (by kernel_rfl), .inr (.inr ⟨8, 9, _, rfl, rfl, fun v w hv hw => fit_pair (a := true) (b := true) hv hw⟩)⟩
theorem gam_ok {A n0 : Nat} : GamOk (A := A) (n0 := n0) Try.prog gam := by
  intro f ft h
  unfold gam at h
  split at h
  · cases h; exact gam36
  · cases h; exact gam61
  · cases h; exact gam62
  · cases h; exact gam74
  · cases h; exact gam75
  · cases h; exact gam76
  · cases h; exact gam77
  · cases h; exact gam78
  · cases h; exact gam79
  · cases h; exact gam80
  · cases h; exact gam81
  · cases h; exact gam82
  · cases h; exact gam83
  · cases h; exact gam84
  · cases h; exact gam89
  · cases h; exact gam90
  · cases h; exact gam91
  · cases h; exact gam92
  · cases h; exact gam93
  · cases h; exact gam94
  · cases h; exact gam99
  · cases h
end Go.Proofs.Ytboiolnnhmlieaa.Brd
namespace Go.Proofs.Ytboiolnnhmlieaa.Brd
open Go.Shelf
def sortT_ren : Go.Shelf.Ren := ⟨fun | 5 => 36 | 8 => 62 | 7 => 61 | 19 => 83 | 20 => 84 | 10 => 74 | 11 => 75 | 12 => 76 | 13 => 77 | 14 => 78 | 15 => 79 | 16 => 80 | 17 => 81 | 18 => 82 | 30 => 89 | 31 => 90 | 32 => 91 | 33 => 92 | 34 => 93 | 35 => 94 | 40 => 99 | n => n, fun | 23 => 41 | 25 => 2 | 3 => 3 | 32 => 89 | 22 => 41 | 0 => 0 | 44 => 57 | 46 => 72 | 4 => 4 | 36 => 117 | 35 => 116 | 41 => 121 | 5 => 5 | 9 => 9 | 53 => 128 | 57 => 131 | 63 => 139 | 64 => 140 | n => n, fun | n => n⟩
theorem sortT : Go.Proofs.SlLaysM.n5 Try.prog sortT_ren := {
  mixed := by kernel_rfl
  f5 := ⟨Try.f36.name, by decide, Try.func36.trans (congrArg some (by kernel_rfl))⟩
  f7 := ⟨Try.f61.name, by decide, Try.func61.trans (congrArg some (by kernel_rfl))⟩
  f8 := Try.func62.trans (congrArg some (by kernel_rfl))
  f10 := ⟨Try.f74.name, by decide, Try.func74.trans (congrArg some (by kernel_rfl))⟩
  f11 := ⟨Try.f75.name, by decide, Try.func75.trans (congrArg some (by kernel_rfl))⟩
  f12 := ⟨Try.f76.name, by decide, Try.func76.trans (congrArg some (by kernel_rfl))⟩
  f13 := ⟨Try.f77.name, by decide, Try.func77.trans (congrArg some (by kernel_rfl))⟩
  f14 := ⟨Try.f78.name, by decide, Try.func78.trans (congrArg some (by kernel_rfl))⟩
  f15 := ⟨Try.f79.name, by decide, Try.func79.trans (congrArg some (by kernel_rfl))⟩
  f16 := ⟨Try.f80.name, by decide, Try.func80.trans (congrArg some (by kernel_rfl))⟩
  f17 := ⟨Try.f81.name, by decide, Try.func81.trans (congrArg some (by kernel_rfl))⟩
  f18 := ⟨Try.f82.name, by decide, Try.func82.trans (congrArg some (by kernel_rfl))⟩
  f19 := Try.func83.trans (congrArg some (by kernel_rfl))
  f20 := Try.func84.trans (congrArg some (by kernel_rfl))
  f30 := ⟨Try.f89.name, by decide, Try.func89.trans (congrArg some (by kernel_rfl))⟩
  f31 := Try.func90.trans (congrArg some (by kernel_rfl))
  f32 := Try.func91.trans (congrArg some (by kernel_rfl))
  f33 := ⟨Try.f92.name, by decide, Try.func92.trans (congrArg some (by kernel_rfl))⟩
  f34 := ⟨Try.f93.name, by decide, Try.func93.trans (congrArg some (by kernel_rfl))⟩
  f35 := ⟨Try.f94.name, by decide, Try.func94.trans (congrArg some (by kernel_rfl))⟩
  f40 := ⟨Try.f99.name, by decide, Try.func99.trans (congrArg some (by kernel_rfl))⟩
  t0 := Try.underlying0
  a0 := Try.isAgg0
  z0 := Try.sizeOf0
  v0 := Try.zeroValue0
  t3 := Try.underlying3
  a3 := Try.isAgg3
  z3 := Try.sizeOf3
  v3 := Try.zeroValue3
  t4 := Try.underlying4
  a4 := Try.isAgg4
  z4 := Try.sizeOf4
  v4 := Try.zeroValue4
  t5 := Try.underlying5
  a5 := Try.isAgg5
  z5 := Try.sizeOf5
  v5 := Try.zeroValue5
  t9 := Try.underlying9
  a9 := Try.isAgg9
  z9 := Try.sizeOf9
  v9 := Try.zeroValue9
  t22 := Try.underlying41
  a22 := Try.isAgg41
  z22 := Try.sizeOf41
  v22 := Try.zeroValue41
  t23 := Try.underlying41
  a23 := Try.isAgg41
  z23 := Try.sizeOf41
  v23 := Try.zeroValue41
  t25 := Try.underlying2
  a25 := Try.isAgg2
  z25 := Try.sizeOf2
  v25 := Try.zeroValue2
  t32 := Try.underlying89
  a32 := Try.isAgg89
  z32 := Try.sizeOf89
  v32 := Try.zeroValue89
  t35 := Try.underlying116
  a35 := Try.isAgg116
  z35 := Try.sizeOf116
  v35 := Try.zeroValue116
  t36 := Try.underlying117
  a36 := Try.isAgg117
  z36 := Try.sizeOf117
  v36 := Try.zeroValue117
  t41 := Try.underlying121
  a41 := Try.isAgg121
  z41 := Try.sizeOf121
  v41 := Try.zeroValue121
  t44 := Try.underlying57
  a44 := Try.isAgg57
  z44 := Try.sizeOf57
  v44 := Try.zeroValue57
  t46 := Try.underlying72
  a46 := Try.isAgg72
  z46 := Try.sizeOf72
  v46 := Try.zeroValue72
  t53 := Try.underlying128
  a53 := Try.isAgg128
  z53 := Try.sizeOf128
  v53 := Try.zeroValue128
  t57 := Try.underlying131
  a57 := Try.isAgg131
  z57 := Try.sizeOf131
  v57 := Try.zeroValue131
  t63 := Try.underlying139
  a63 := Try.isAgg139
  z63 := Try.sizeOf139
  v63 := Try.zeroValue139
  t64 := Try.underlying140
  a64 := Try.isAgg140
  z64 := Try.sizeOf140
  v64 := Try.zeroValue140 }
end Go.Proofs.Ytboiolnnhmlieaa.Brd
namespace Go.Proofs.Ytboiolnnhmlieaa.Brd
open Go.Conc Go.ConcN Go.Proofs.Ytboiolnnhmlieaa.Gang Go.Shelf Go.Sort Go.Proofs
set_option linter.unusedVariables false
set_option linter.unusedSimpArgs false
theorem isum_count (u : Int) : ∀ (l : List Int), isum l.length (fun a => hit u (l.getD a 0)) = l.count u
  | [] => rfl
  | x :: l => by
    have h1 := isum_shift (f := fun a => hit u ((x :: l).getD a 0)) (m := l.length)
    have h2 := isum_count u l
    rw [List.length_cons, ← h1]
    simp only [List.getD_cons_succ, List.getD_cons_zero]
    rw [h2, List.count_cons]
    unfold hit
    by_cases e : x = u
    · subst e; simp
    · rw [if_neg e]
      have : (x == u) = false := by simpa using e
      rw [this]; simp
theorem ofFn_getD {N : Nat} (f : Nat → Int) {a : Nat} (h : a < N) : (List.ofFn (n := N) fun k => f k).getD a 0 = f a := by
  rw [List.getD_eq_getElem?_getD, List.getElem?_ofFn]
  simp [h]
theorem isum_ofFn (u : Int) (N : Nat) (f : Nat → Int) : isum N (fun a => hit u (f a)) = (List.ofFn (n := N) fun k => f k).count u := by
  rw [← isum_count, List.length_ofFn]
  exact isum_congr fun a ha => by rw [ofFn_getD f ha]
theorem sort_rise (l : List Int) : ∀ i, i + 1 < l.length → (l.mergeSort fun x y => decide (x ≤ y)).getD i 0 ≤ (l.mergeSort fun x y => decide (x ≤ y)).getD (i + 1) 0 := fun i hi => by
  have hp := List.pairwise_mergeSort (le := fun (x y : Int) => decide (x ≤ y)) (by intro a b c; simp only [decide_eq_true_eq]; omega) (by intro a b; simp only [Bool.or_eq_true, decide_eq_true_eq]; omega) l
  have hl : (l.mergeSort fun x y => decide (x ≤ y)).length = l.length := List.length_mergeSort ..
  have := List.pairwise_iff_getElem.1 hp i (i + 1) (by omega) (by omega) (by omega)
  rw [List.getD_eq_getElem?_getD, List.getD_eq_getElem?_getD, List.getElem?_eq_getElem (by omega), List.getElem?_eq_getElem (by omega)]
  simpa using this
theorem arr_ints {A N : Nat} {f : Nat → Int} {w : World} (h : ArrAt A N f w) : IntsH A w.heap.size w.heap :=
  ⟨Nat.le_refl _, fun b hb hlt => by
    rcases hb with rfl | hb
    · refine ⟨_, 2, h, fun v hv => ?_⟩
      obtain ⟨i, hi, rfl⟩ := Array.mem_iff_getElem.1 hv
      rw [Array.getElem_ofFn]
      exact ⟨_, _, rfl⟩
    · omega⟩
set_option maxHeartbeats 1000000 in
/-- slices.Sort, whatever the length -/
theorem sorts_any (A N : Nat) (hN : N < 4611686018427387904) : SortsAt A N := by
  intro Y w1 f hY hA h
  have hlt : A < w1.heap.size := (Array.getElem?_eq_some_iff.1 h).1
  let zs : List Int := List.ofFn (n := N) fun k => f k
  have hzl : zs.length = N := List.length_ofFn
  have hcon := con_of_calls (P := Try.prog) (Γ := gam) (A := A) (n0 := w1.heap.size) (X := Y) (w := w1) gam_ok (f := 36) (ft := ft36) rfl (args := #[.slice (some ⟨A, 0, none⟩) N N]) rfl (fun i => by
      match i with
      | 0 => exact .inr (.inr ⟨⟨A, 0, none⟩, N, N, rfl, .inl rfl⟩)
      | i + 1 => exact trivial) (arr_ints h) (fun b hb o => by
      rcases hb with rfl | hb
      · exact hA.2 o
      · exact hY.new b hb o)
    (R := fun v hp => v = .tuple #[] ∧ ∃ cs : Array Value, hp[A]? = some (.cells cs 2) ∧ cs.size = N ∧ ∀ k, k < N → cs[k]? = some (.int .i64 ((zs.mergeSort fun x y => decide (x ≤ y)).getD k 0))) (fun t => ?_)
  · refine Con.mono hcon fun Y' v w2 ⟨e1, ⟨hv, cs, hc1, hc2, hc3⟩, e3, e4, e5, e6⟩ => ⟨e1, fun k => (zs.mergeSort fun x y => decide (x ≤ y)).getD k 0, ?_, ⟨e3, e4, e5, e6.size, fun b hb hne => e6.out b (fun ho => by rcases ho with rfl | ho <;> omega)⟩, fun i hi => sort_rise zs i (by omega), fun u => ?_⟩
    · unfold ArrAt
      rw [hc1]
      congr 2
      apply Array.ext_getElem?
      intro k
      by_cases hk : k < N
      · rw [hc3 k hk, Array.getElem?_ofFn, dif_pos hk]
      · rw [Array.getElem?_eq_none (by omega), Array.getElem?_eq_none (by rw [Array.size_ofFn]; omega)]
    · rw [isum_ofFn u N f]
      have h1 := isum_count u (zs.mergeSort fun x y => decide (x ≤ y))
      rw [List.length_mergeSort, hzl] at h1
      rw [h1, (List.mergeSort_perm zs _).count_eq]
  · have hH : Holds (Value.int .i64) { w1 with tape := fun j _ => t j, drawn := 0 } A 0 zs.toArray := fun j hj => by
      have hj' : j < N := by simpa [hzl] using hj
      have hc : ({ w1 with tape := fun j _ => t j, drawn := 0 } : World).heap[A]? = some (.cells (Array.ofFn (n := N) fun k => Value.int .i64 (f k)) 2) := h
      refine ⟨?_, ?_⟩
      · unfold World.cell?
        rw [hc]
        simp [zs, hj']
      · unfold World.frozen?
        rw [hc]
        simp
    have hc := AnyM.slices_Sort_int sortT A 0 N zs { w1 with tape := fun j _ => t j, drawn := 0 } hH hlt (by omega)
    rw [hzl] at hc
    refine Calls.mono hc fun e w' ⟨he, n, os, hw⟩ => ⟨_, he, rfl, ?_⟩
    subst hw
    have hml : (zs.mergeSort fun x y => decide (x ≤ y)).length = N := by rw [List.length_mergeSort, hzl]
    refine ⟨putCells (Value.int .i64) 0 (zs.mergeSort fun x y => decide (x ≤ y)).toArray (Array.ofFn (n := N) fun k => Value.int .i64 (f k)), ?_, ?_, fun k hk => ?_⟩
    · show ((mapBlock (Go.Sort.ahead { w1 with tape := fun j _ => t j, drawn := 0 } n) A (putCells (Value.int .i64) 0 (zs.mergeSort fun x y => decide (x ≤ y)).toArray)).heap ++ os)[A]? = _
      have hb : (mapBlock (Go.Sort.ahead { w1 with tape := fun j _ => t j, drawn := 0 } n) A (putCells (Value.int .i64) 0 (zs.mergeSort fun x y => decide (x ≤ y)).toArray)).heap[A]? = some (.cells (putCells (Value.int .i64) 0 (zs.mergeSort fun x y => decide (x ≤ y)).toArray (Array.ofFn (n := N) fun k => Value.int .i64 (f k))) 2) := by
        show (w1.heap.modify A _)[A]? = _
        rw [Array.getElem?_modify, if_pos rfl, h]
        rfl
      rw [Array.getElem?_append_left (Array.getElem?_eq_some_iff.1 hb).1]
      exact hb
    · simp [putCells]
    · simp only [putCells, Array.getElem?_mapIdx, Array.getElem?_ofFn, dif_pos hk, Option.map_some]
      rw [if_pos ⟨Nat.zero_le _, by simp only [List.size_toArray, hml]; omega⟩]
      congr 2
      rw [Nat.sub_zero, List.getD_eq_getElem?_getD]
      simp [hml, hk]
end Go.Proofs.Ytboiolnnhmlieaa.Brd
