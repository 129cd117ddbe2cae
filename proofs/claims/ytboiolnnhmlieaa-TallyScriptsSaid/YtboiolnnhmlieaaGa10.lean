
/-
  A member's way through the library: calls, returns, deferred calls, words; and the stops at the group's own accesses.
  Conditions: stated lemma by lemma.
-/
import Derived.Test.YtboiolnnhmlieaaGa9
import Derived.Conc.WgGenN3
namespace Go.Proofs.Ytboiolnnhmlieaa.Gang
open Go.Conc Go.ConcN
open Go.ConcR (wgBlock WgAt stA smA rd wr KK)
set_option linter.unusedVariables false
set_option linter.unusedSimpArgs false

section
variable {X Lam : Type} {P : Program} {J : Job P X Lam} {i : Nat} {p : Pos Lam} {b : Frame} {a : Act} {k : List Item} {cs : List Frame} {w : World}

theorem W.call {ops : Array Oper} {n : Nat} {rest : List Nat} {o : Oper} {f : FuncId} {fn : Func} {c : Code} {args : Array Operand} {ats : Array TypeId} (hq : p.quit = false)
    (ho : ops[n]? = some o) (hw : Region.wanted o (yielded ops a.tmps) = true) (hk : b.kind ≠ .early) (hop : o.op = .call { callee := .value (.func f), args, argTypes := ats })
    (hf : P.funcs[f]? = some fn) (hname : (fn.name == "runtime.NumGoroutine") = false) (hb : fn.body = some c)
    (h : J.W i p (G ((base f).at { tmps := args.map a.eval ++ Array.replicate (fn.ntmps - (args.map a.eval).size) undef, defers := [] } [.code c]) (b.at a (.inRegion ops (n :: rest) :: k) :: cs)) w) :
    J.W i p (G (b.at a (.inRegion ops (n :: rest) :: k)) cs) w :=
  W.of_goes rfl (fun w₁ h₁ => goes_call ho hw hk hop hf hname hb ⟨rfl, rfl, J.idle i p w₁⟩) hq h
section
variable {fn : Func} {todo : List Item} {b₀ : Frame} {a₀ : Act} {ops : Array Oper} {n : Nat} {rest : List Nat}
theorem W.leave1 {t : Tmp} (hq : p.quit = false) (hn : b.kind = .normal) (hd : a.defers = []) (hf : P.funcs[b.fn]? = some fn) (hr : fn.results = #[.tmp t])
    (h : J.W i p (G (b₀.at (a₀.put ((ops[n]?).bind (·.dst)) (a.tmps.getD t undef)) (.inRegion ops rest :: k)) cs) w) :
    J.W i p (G { b.at a todo with mode := .returning } (b₀.at a₀ (.inRegion ops (n :: rest) :: k) :: cs)) w :=
  W.of_goes rfl (fun w₁ h₁ => goes_leave1 hn hd hf hr ⟨rfl, rfl, J.idle i p w₁⟩) hq h
theorem W.leave0 (hq : p.quit = false) (hn : b.kind = .normal) (hd : a.defers = []) (hf : P.funcs[b.fn]? = some fn) (hr : fn.results = #[])
    (h : J.W i p (G (b₀.at (a₀.put ((ops[n]?).bind (·.dst)) (.tuple #[])) (.inRegion ops rest :: k)) cs) w) :
    J.W i p (G { b.at a todo with mode := .returning } (b₀.at a₀ (.inRegion ops (n :: rest) :: k) :: cs)) w :=
  W.of_goes rfl (fun w₁ h₁ => goes_leave0 hn hd hf hr ⟨rfl, rfl, J.idle i p w₁⟩) hq h
end
theorem W.defer {ops : Array Oper} {n : Nat} {rest : List Nat} {o : Oper} {f : FuncId} {as : Array Operand} {ats : Array TypeId} (hq : p.quit = false) (ho : ops[n]? = some o) (hw : Region.wanted o (yielded ops a.tmps) = true) (hk : b.kind ≠ .early)
    (hop : o.op = .defer { callee := .value (.func f), args := as, argTypes := ats }) (h : J.W i p (G (b.at (Act.put ⟨a.tmps, dcall f (as.map a.eval) :: a.defers⟩ o.dst undef) (.inRegion ops rest :: k)) cs) w) :
    J.W i p (G (b.at a (.inRegion ops (n :: rest) :: k)) cs) w := W.idle rfl (fun _ => stepG_defer ho hw hk hop) hq h
/-- an operation: 'go_simp' finds what it makes -/
theorem W.opk {ops : Array Oper} {n : Nat} {rest : List Nat} {o : Oper} {a' : Act} (hq : p.quit = false) (ho : ops[n]? = some o) (hw : Region.wanted o (yielded ops a.tmps) = true) (hk : b.kind ≠ .early)
    (h : ∀ w₁, J.rely i w w₁ → ∀ K : Act → World → Prop, K a' w₁ → uponK o a K ((execOp a.eval o).run P w₁)) (he : ∀ w₁, J.rely i w w₁ → (execOp a.eval o).events P w₁ #[] = #[]) (hW : J.W i p (G (b.at a' (.inRegion ops rest :: k)) cs) w) :
    J.W i p (G (b.at a (.inRegion ops (n :: rest) :: k)) cs) w :=
  W.of_goes rfl (fun w₁ h₁ => goes_oper_k ho hw hk (fun K hK => h w₁ h₁ K (hK _ _ ⟨rfl, rfl, J.quiet i p w₁ (listed_nil (he w₁ h₁))⟩))) hq hW
/-- a step that says something and turns nothing -/
theorem W.said {g g' : Goroutine} {es : Array Event} (hs : g.status = .running) (h : ∀ w₁, J.rely i w w₁ → stepG P (i == 0) g w₁ = .go g' w₁ es) (he : ∀ w₁, J.step i p w₁ w₁ es) (hq : p.quit = false) (hW : J.W i p g' w) : J.W i p g w :=
  W.of_goes hs (fun w₁ h₁ => by rw [h w₁ h₁]; exact ⟨rfl, rfl, he w₁⟩) hq hW

theorem C.call {ops : Array Oper} {n : Nat} {rest : List Nat} {o : Oper} {f : FuncId} {fn : Func} {c : Code} {args : Array Operand} {ats : Array TypeId} (hq : p.quit = false)
    (ho : ops[n]? = some o) (hw : Region.wanted o (yielded ops a.tmps) = true) (hk : b.kind ≠ .early) (hop : o.op = .call { callee := .value (.func f), args, argTypes := ats })
    (hf : P.funcs[f]? = some fn) (hname : (fn.name == "runtime.NumGoroutine") = false) (hb : fn.body = some c)
    (h : J.C i p (G ((base f).at { tmps := args.map a.eval ++ Array.replicate (fn.ntmps - (args.map a.eval).size) undef, defers := [] } [.code c]) (b.at a (.inRegion ops (n :: rest) :: k) :: cs)) w) :
    J.C i p (G (b.at a (.inRegion ops (n :: rest) :: k)) cs) w :=
  C.of_goes rfl (fun w₁ h₁ => goes_call ho hw hk hop hf hname hb ⟨rfl, rfl, J.idle i p w₁⟩) hq h
section
variable {fn : Func} {todo : List Item} {b₀ : Frame} {a₀ : Act} {ops : Array Oper} {n : Nat} {rest : List Nat}
theorem C.leave1 {t : Tmp} (hq : p.quit = false) (hn : b.kind = .normal) (hd : a.defers = []) (hf : P.funcs[b.fn]? = some fn) (hr : fn.results = #[.tmp t])
    (h : J.C i p (G (b₀.at (a₀.put ((ops[n]?).bind (·.dst)) (a.tmps.getD t undef)) (.inRegion ops rest :: k)) cs) w) :
    J.C i p (G { b.at a todo with mode := .returning } (b₀.at a₀ (.inRegion ops (n :: rest) :: k) :: cs)) w :=
  C.of_goes rfl (fun w₁ h₁ => goes_leave1 hn hd hf hr ⟨rfl, rfl, J.idle i p w₁⟩) hq h
theorem C.leave0 (hq : p.quit = false) (hn : b.kind = .normal) (hd : a.defers = []) (hf : P.funcs[b.fn]? = some fn) (hr : fn.results = #[])
    (h : J.C i p (G (b₀.at (a₀.put ((ops[n]?).bind (·.dst)) (.tuple #[])) (.inRegion ops rest :: k)) cs) w) :
    J.C i p (G { b.at a todo with mode := .returning } (b₀.at a₀ (.inRegion ops (n :: rest) :: k) :: cs)) w :=
  C.of_goes rfl (fun w₁ h₁ => goes_leave0 hn hd hf hr ⟨rfl, rfl, J.idle i p w₁⟩) hq h
end
theorem C.defer {ops : Array Oper} {n : Nat} {rest : List Nat} {o : Oper} {f : FuncId} {as : Array Operand} {ats : Array TypeId} (hq : p.quit = false) (ho : ops[n]? = some o) (hw : Region.wanted o (yielded ops a.tmps) = true) (hk : b.kind ≠ .early)
    (hop : o.op = .defer { callee := .value (.func f), args := as, argTypes := ats }) (h : J.C i p (G (b.at (Act.put ⟨a.tmps, dcall f (as.map a.eval) :: a.defers⟩ o.dst undef) (.inRegion ops rest :: k)) cs) w) :
    J.C i p (G (b.at a (.inRegion ops (n :: rest) :: k)) cs) w := C.idle rfl (fun _ => stepG_defer ho hw hk hop) hq h
theorem C.opk {ops : Array Oper} {n : Nat} {rest : List Nat} {o : Oper} {a' : Act} (hq : p.quit = false) (ho : ops[n]? = some o) (hw : Region.wanted o (yielded ops a.tmps) = true) (hk : b.kind ≠ .early)
    (h : ∀ w₁, J.rely i w w₁ → ∀ K : Act → World → Prop, K a' w₁ → uponK o a K ((execOp a.eval o).run P w₁)) (he : ∀ w₁, J.rely i w w₁ → (execOp a.eval o).events P w₁ #[] = #[]) (hW : J.C i p (G (b.at a' (.inRegion ops rest :: k)) cs) w) :
    J.C i p (G (b.at a (.inRegion ops (n :: rest) :: k)) cs) w :=
  C.of_goes rfl (fun w₁ h₁ => goes_oper_k ho hw hk (fun K hK => h w₁ h₁ K (hK _ _ ⟨rfl, rfl, J.quiet i p w₁ (listed_nil (he w₁ h₁))⟩))) hq hW
theorem C.said {g g' : Goroutine} {es : Array Event} (hs : g.status = .running) (h : ∀ w₁, J.rely i w w₁ → stepG P (i == 0) g w₁ = .go g' w₁ es) (he : ∀ w₁, J.step i p w₁ w₁ es) (hq : p.quit = false) (hW : J.C i p g' w) : J.C i p g w :=
  C.of_goes hs (fun w₁ h₁ => by rw [h w₁ h₁]; exact ⟨rfl, rfl, he w₁⟩) hq hW

/-- what an action does to the world: shared blocks alone turn, the group stays -/
abbrev Job.Turn (J : Job P X Lam) (w w' : World) : Prop := Suffer0 (liveAt J.ty J.Wg) J.Shb w w'
theorem Turn.refl (w : World) : J.Turn w w := ⟨.refl w, rfl, fun _ _ => rfl, id⟩
theorem Turn.rely {k : Nat} {w w' : World} (h : J.Turn w w') : J.rely k w w' := by
  unfold Job.rely
  split
  · exact h
  · exact ⟨h.out, by rw [h.size]; exact Nat.le_refl _, fun b _ hb => h.low b hb, h.live⟩
/-- A STOP -/
theorem C.act {g : Goroutine} (hq : p.quit = false) (hs : g.status = .running) (ho : g.offers = none)
    (h : ∀ w₁, J.rely i w w₁ → ∀ s, okP J.B.n J.okB p s → J.conc s w₁ → ∃ s' p', J.B.next p s = .act s' p' ∧ ∃ g' w' es, stepG P (i == 0) g w₁ = .go g' w' es ∧ J.conc s' w' ∧ J.Turn w₁ w' ∧ J.ev i p p' es ∧ J.W i p' g' w ∧ (p.wakes = true → mayWake P g = true ∧ g'.status = .running)) : J.C i p g w := by
  refine C.stop hq (fun w₁ h₁ => ⟨hs, ho, fun s hok hc => ?_⟩)
  obtain ⟨s', p', hn, g', w', es, k1, k2, k3, k4, k5, k6⟩ := h w₁ h₁ s hok hc
  have e : (J.put J.W).team.next i p s = .act s' p' := hn
  rw [e]
  exact ⟨g', w', es, k1, k2, fun k _ => Turn.rely k3, k4, W.rely k5 (rely_trans h₁ (Turn.rely k3)), k6⟩
theorem W.act {g : Goroutine} (hq : p.quit = false) (hs : g.status = .running) (ho : g.offers = none)
    (h : ∀ w₁, J.rely i w w₁ → ∀ s, okP J.B.n J.okB p s → J.conc s w₁ → ∃ s' p', J.B.next p s = .act s' p' ∧ ∃ g' w' es, stepG P (i == 0) g w₁ = .go g' w' es ∧ J.conc s' w' ∧ J.Turn w₁ w' ∧ J.ev i p p' es ∧ J.W i p' g' w ∧ (p.wakes = true → mayWake P g = true ∧ g'.status = .running)) : J.W i p g w := .inl (C.act hq hs ho h)
end
end Go.Proofs.Ytboiolnnhmlieaa.Gang
