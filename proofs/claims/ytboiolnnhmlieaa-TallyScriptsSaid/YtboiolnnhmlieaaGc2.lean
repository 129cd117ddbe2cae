
/-
  Goroutine 0 beside leavers: operations, calls, returns; contracts in company; the draw of an order.
  Conditions: stated lemma by lemma.
-/
import Derived.Test.YtboiolnnhmlieaaGc1
import Derived.Conc.BesideWords
namespace Go.Proofs.Ytboiolnnhmlieaa.Gang
open Go.Conc Go.ConcN
set_option linter.unusedVariables false
set_option linter.unusedSimpArgs false

section
variable {P : Program} {X : Cx} {b : Frame} {a : Act} {k : List Item} {cs : List Frame} {w : World}
theorem Run.goes {g : Goroutine} (hs : g.status = .running) (h : ∀ w₁, AtRel w w₁ → (stepG P true g w₁).goes fun g1 w1 es => (∀ e ∈ es, EvL X.Sh X.B e) ∧ Run P X g1 w1) : Run P X g w :=
  Run.step hs fun w₁ h₁ => by
    have := h w₁ h₁
    cases hst : stepG P true g w₁ with
    | go g1 w1 es => rw [hst] at this; exact ⟨g1, w1, es, rfl, this.1, this.2⟩
    | _ => rw [hst] at this; exact this.elim
/-- an operation that turns nothing and lists nothing -/
theorem Run.op0 {ops : Array Oper} {n : Nat} {rest : List Nat} {o : Oper} {a' : Act} (ho : ops[n]? = some o) (hw : Region.wanted o (yielded ops a.tmps) = true) (hk : b.kind ≠ .early)
    (h : ∀ d, ∀ K : Act → World → Prop, K a' (w.at d) → uponK o a K ((execOp a.eval o).run P (w.at d))) (he : ∀ d, (execOp a.eval o).events P (w.at d) #[] = #[]) (hW : Run P X (G (b.at a' (.inRegion ops rest :: k)) cs) w) :
    Run P X (G (b.at a (.inRegion ops (n :: rest) :: k)) cs) w :=
  Run.goes rfl fun w₁ h₁ => by
    obtain ⟨d, rfl⟩ := h₁
    exact goes_oper_k ho hw hk (fun K hK => h d K (hK _ _ ⟨by rw [listed_nil (he d)]; exact fun e he => by simp at he, Run.rely hW ⟨d, rfl⟩⟩))
/-- an operation that may turn the world and list accesses -/
theorem Run.op {ops : Array Oper} {n : Nat} {rest : List Nat} {o : Oper} {a' : Act} (w' : World) (ho : ops[n]? = some o) (hw : Region.wanted o (yielded ops a.tmps) = true) (hk : b.kind ≠ .early)
    (h : ∀ d, ∀ K : Act → World → Prop, K a' (w'.at d) → uponK o a K ((execOp a.eval o).run P (w.at d))) (he : ∀ d, ∀ e ∈ (execOp a.eval o).events P (w.at d) #[], EvL X.Sh X.B e) (hW : Run P X (G (b.at a' (.inRegion ops rest :: k)) cs) w') :
    Run P X (G (b.at a (.inRegion ops (n :: rest) :: k)) cs) w :=
  Run.goes rfl fun w₁ h₁ => by
    obtain ⟨d, rfl⟩ := h₁
    exact goes_oper_k ho hw hk (fun K hK => h d K (hK _ _ ⟨fun e hm => he d e (mem_listed hm), Run.rely hW ⟨d, rfl⟩⟩))
theorem Run.call {ops : Array Oper} {n : Nat} {rest : List Nat} {o : Oper} {f : FuncId} {fn : Func} {c : Code} {args : Array Operand} {ats : Array TypeId}
    (ho : ops[n]? = some o) (hw : Region.wanted o (yielded ops a.tmps) = true) (hk : b.kind ≠ .early) (hop : o.op = .call { callee := .value (.func f), args, argTypes := ats })
    (hf : P.funcs[f]? = some fn) (hname : (fn.name == "runtime.NumGoroutine") = false) (hb : fn.body = some c)
    (h : Run P X (G ((base f).at { tmps := args.map a.eval ++ Array.replicate (fn.ntmps - (args.map a.eval).size) undef, defers := [] } [.code c]) (b.at a (.inRegion ops (n :: rest) :: k) :: cs)) w) :
    Run P X (G (b.at a (.inRegion ops (n :: rest) :: k)) cs) w :=
  Run.goes rfl fun w₁ h₁ => goes_call ho hw hk hop hf hname hb ⟨fun e he => by simp at he, Run.rely h h₁⟩
section
variable {fn : Func} {todo : List Item} {b₀ : Frame} {a₀ : Act} {ops : Array Oper} {n : Nat} {rest : List Nat}
theorem Run.leave0 (hn : b.kind = .normal) (hd : a.defers = []) (hf : P.funcs[b.fn]? = some fn) (hr : fn.results = #[])
    (h : Run P X (G (b₀.at (a₀.put ((ops[n]?).bind (·.dst)) (.tuple #[])) (.inRegion ops rest :: k)) cs) w) :
    Run P X (G { b.at a todo with mode := .returning } (b₀.at a₀ (.inRegion ops (n :: rest) :: k) :: cs)) w :=
  Run.goes rfl fun w₁ h₁ => goes_leave0 hn hd hf hr ⟨fun e he => by simp at he, Run.rely h h₁⟩
theorem Run.leave1 {t : Tmp} (hn : b.kind = .normal) (hd : a.defers = []) (hf : P.funcs[b.fn]? = some fn) (hr : fn.results = #[.tmp t])
    (h : Run P X (G (b₀.at (a₀.put ((ops[n]?).bind (·.dst)) (a.tmps.getD t undef)) (.inRegion ops rest :: k)) cs) w) :
    Run P X (G { b.at a todo with mode := .returning } (b₀.at a₀ (.inRegion ops (n :: rest) :: k) :: cs)) w :=
  Run.goes rfl fun w₁ h₁ => goes_leave1 hn hd hf hr ⟨fun e he => by simp at he, Run.rely h h₁⟩
theorem Run.leave2 {t u : Tmp} (hn : b.kind = .normal) (hd : a.defers = []) (hf : P.funcs[b.fn]? = some fn) (hr : fn.results = #[.tmp t, .tmp u])
    (h : Run P X (G (b₀.at (a₀.put ((ops[n]?).bind (·.dst)) (.tuple #[a.tmps.getD t undef, a.tmps.getD u undef])) (.inRegion ops rest :: k)) cs) w) :
    Run P X (G { b.at a todo with mode := .returning } (b₀.at a₀ (.inRegion ops (n :: rest) :: k) :: cs)) w :=
  Run.goes rfl fun w₁ h₁ => goes_leave2 hn hd hf hr ⟨fun e he => by simp at he, Run.rely h h₁⟩
end

/-! words -/
theorem Run.says {g g' : Goroutine} (m : Mark) (hs : g.status = .running) (h : ∀ w₁, AtRel w w₁ → stepG P true g w₁ = .go g' w₁ #[Go.ConcR.mk m]) (hl : (MemAct.mark m).low X.B) (hr : ∀ a, m ≠ .read a) (hw : ∀ a, m ≠ .write a) (hW : Run P { X with d := deafBehind X.d #[Go.ConcR.mk m] } g' w) : Run P X g w :=
  Run.stepD hs fun w₁ h₁ => ⟨g', w₁, _, h w₁ h₁, fun e he => by
    rw [Array.mem_singleton] at he
    subst he
    exact ⟨fun x hx => (by rw [touch_word (e := Go.ConcR.mk m) rfl hr hw] at hx; cases hx), low_loc (e := Go.ConcR.mk m) rfl hl⟩, Run.rely hW h₁⟩
theorem deaf_dis (d : Nat) : deafBehind d #[Go.ConcR.mk .disable] = d + 1 := by simp [deafBehind, Go.ConcR.mk]
theorem deaf_en (d : Nat) : deafBehind (d + 1) #[Go.ConcR.mk .enable] = d := by simp [deafBehind, Go.ConcR.mk]
theorem deaf_acq (d : Nat) (ad : Addr) : deafBehind d #[Go.ConcR.mk (.acquire ad)] = d := by simp [deafBehind, Go.ConcR.mk]
theorem deaf_rel (d : Nat) (ad : Addr) : deafBehind d #[Go.ConcR.mk (.releaseMerge ad)] = d := by simp [deafBehind, Go.ConcR.mk]
/-! atomic accesses -/
theorem evL_at {ad : Addr} {x : Bool} (hb : ad.block < X.B) : EvL X.Sh X.B ⟨.cell ad, x, true⟩ := by
  refine ⟨fun y hy hs => ?_, by simp, by simp, hb⟩
  simp only [MemAct.ofEvent, MemAct.touch?, Option.some.injEq] at hy
  subst hy
  simp
theorem evL_at2 {ad : Addr} (hb : ad.block < X.B) : ∀ e ∈ #[(⟨.cell ad, false, true⟩ : Event), ⟨.cell ad, true, true⟩], EvL X.Sh X.B e := fun e he => by
  simp only [List.mem_toArray, List.mem_cons, List.not_mem_nil, or_false] at he
  rcases he with rfl | rfl <;> exact evL_at hb
theorem evL_at1 {ad : Addr} {x : Bool} (hb : ad.block < X.B) : ∀ e ∈ #[(⟨.cell ad, x, true⟩ : Event)], EvL X.Sh X.B e := fun e he => by
  rw [Array.mem_singleton] at he
  subst he
  exact evL_at hb
theorem atRel_set {w w₁ : World} (ad : Addr) (v : Value) (h : AtRel w w₁) : AtRel (w.setCell ad v) (w₁.setCell ad v) := by
  obtain ⟨d, rfl⟩ := h
  exact ⟨d, rfl⟩
section
variable {ops : Array Oper} {n : Nat} {rest : List Nat} {o : Oper} {f : FuncId} {fn : Func} {ats : Array TypeId}
theorem Run.addAt {x y : Operand} (ho : ops[n]? = some o) (hw : Region.wanted o (yielded ops a.tmps) = true) (hk : b.kind ≠ .early) (hop : o.op = .call { callee := .value (.func f), args := #[x, y], argTypes := ats })
    (hf : P.funcs[f]? = some fn) (hname : (fn.name == "runtime.NumGoroutine") = false) (hb : fn.body.isNone = true) (hn : Extern.findNext fn = none) (kd : IntKind)
    (he : Extern.find fn = some (Extern.Atomic.update (Op.intArith .add) kd true)) {ad : Addr} {v d : Int} (hx : a.eval x = .pointer (some ad)) (hy : a.eval y = .int kd d) (hc : w.cell? ad = some (.int kd v)) (hz : w.frozen? ad = false) (hB : ad.block < X.B)
    (h : Run P X (G (b.at (a.put o.dst (.int kd (kd.wrap (v + d)))) (.inRegion ops rest :: k)) cs) (w.setCell ad (.int kd (kd.wrap (v + d))))) : Run P X (G (b.at a (.inRegion ops (n :: rest) :: k)) cs) w :=
  Run.turn (fun w => w.setCell ad (.int kd (kd.wrap (v + d)))) rfl (fun w₁ h₁ => atRel_set _ _ h₁) (fun w₁ h₁ => by
    obtain ⟨e, rfl⟩ := h₁
    exact ⟨_, stepG_add_atomic ho hw hk hop hf hname hb hn kd he hx hy hc hz, evL_at2 hB⟩) h
theorem Run.loadAt {x : Operand} (ho : ops[n]? = some o) (hw : Region.wanted o (yielded ops a.tmps) = true) (hk : b.kind ≠ .early) (hop : o.op = .call { callee := .value (.func f), args := #[x], argTypes := ats })
    (hf : P.funcs[f]? = some fn) (hname : (fn.name == "runtime.NumGoroutine") = false) (hb : fn.body.isNone = true) (hn : Extern.findNext fn = none) (kd : IntKind)
    (he : Extern.find fn = some (Extern.Atomic.loadT (.int kd))) {ad : Addr} {v : Int} (hx : a.eval x = .pointer (some ad)) (hc : w.cell? ad = some (.int kd v)) (hB : ad.block < X.B)
    (h : Run P X (G (b.at (a.put o.dst (.int kd v)) (.inRegion ops rest :: k)) cs) w) : Run P X (G (b.at a (.inRegion ops (n :: rest) :: k)) cs) w :=
  Run.turn (fun w => w) rfl (fun w₁ h₁ => h₁) (fun w₁ h₁ => by
    obtain ⟨e, rfl⟩ := h₁
    exact ⟨_, stepG_load_atomic ho hw hk hop hf hname hb hn kd he hx hc, evL_at1 hB⟩) h
theorem Run.casAt {x y z : Operand} (ho : ops[n]? = some o) (hw : Region.wanted o (yielded ops a.tmps) = true) (hk : b.kind ≠ .early) (hop : o.op = .call { callee := .value (.func f), args := #[x, y, z], argTypes := ats })
    (hf : P.funcs[f]? = some fn) (hname : (fn.name == "runtime.NumGoroutine") = false) (hb : fn.body.isNone = true) (hn : Extern.findNext fn = none) (kd : IntKind)
    (he : Extern.find fn = some (Extern.Atomic.casT (.int kd))) {ad : Addr} {v m : Int} (hx : a.eval x = .pointer (some ad)) (hy : a.eval y = .int kd v) (hz' : a.eval z = .int kd m) (hc : w.cell? ad = some (.int kd v)) (hz : w.frozen? ad = false) (hB : ad.block < X.B)
    (h : Run P X (G (b.at (a.put o.dst (.bool true)) (.inRegion ops rest :: k)) cs) (w.setCell ad (.int kd m))) : Run P X (G (b.at a (.inRegion ops (n :: rest) :: k)) cs) w :=
  Run.turn (fun w => w.setCell ad (.int kd m)) rfl (fun w₁ h₁ => atRel_set _ _ h₁) (fun w₁ h₁ => by
    obtain ⟨e, rfl⟩ := h₁
    exact ⟨_, stepG_cas_hit ho hw hk hop hf hname hb hn kd he hx hy hz' hc hz, evL_at2 hB⟩) h
theorem Run.storeAt {x y : Operand} (ho : ops[n]? = some o) (hw : Region.wanted o (yielded ops a.tmps) = true) (hk : b.kind ≠ .early) (hop : o.op = .call { callee := .value (.func f), args := #[x, y], argTypes := ats })
    (hf : P.funcs[f]? = some fn) (hname : (fn.name == "runtime.NumGoroutine") = false) (hb : fn.body.isNone = true) (hn : Extern.findNext fn = none)
    (he : Extern.find fn = some Extern.Atomic.storeT) {ad : Addr} {kd : IntKind} {v m : Int} (hx : a.eval x = .pointer (some ad)) (hy : a.eval y = .int kd m) {v0 : Value} (hc : w.cell? ad = some v0) (hz : w.frozen? ad = false) (hB : ad.block < X.B)
    (h : Run P X (G (b.at (a.put o.dst (.tuple #[])) (.inRegion ops rest :: k)) cs) (w.setCell ad (.int kd m))) : Run P X (G (b.at a (.inRegion ops (n :: rest) :: k)) cs) w :=
  Run.turn (fun w => w.setCell ad (.int kd m)) rfl (fun w₁ h₁ => atRel_set _ _ h₁) (fun w₁ h₁ => by
    obtain ⟨e, rfl⟩ := h₁
    exact ⟨_, stepG_store_atomic ho hw hk hop hf hname hb hn he hx hy hc hz, evL_at1 hB⟩) h
end

/-- A CONTRACT IN COMPANY: behind the call the run goes on well, if it does so wherever R says -/
def Con (P : Program) (X : Cx) (f : FuncId) (args : Array Value) (w : World) (R : Cx → Value → World → Prop) : Prop :=
  ∃ fn c, P.funcs[f]? = some fn ∧ (fn.name == "runtime.NumGoroutine") = false ∧ fn.body = some c ∧ ∀ (b₀ : Frame) (a₀ : Act) (ops : Array Oper) (n : Nat) (rest : List Nat) (k : List Item) (cs : List Frame),
    (∀ X' v w', R X' v w' → Run P X' (G (b₀.at (a₀.put ((ops[n]?).bind (·.dst)) v) (.inRegion ops rest :: k)) cs) w') →
    Run P X (G ((base f).at { tmps := args ++ Array.replicate (fn.ntmps - args.size) undef, defers := [] } [.code c]) (b₀.at a₀ (.inRegion ops (n :: rest) :: k) :: cs)) w
theorem Con.mono {f : FuncId} {args : Array Value} {R R' : Cx → Value → World → Prop} (h : Con P X f args w R) (hR : ∀ X' v w', R X' v w' → R' X' v w') : Con P X f args w R' := by
  obtain ⟨fn, c, h1, h2, h3, h4⟩ := h
  exact ⟨fn, c, h1, h2, h3, fun b₀ a₀ ops n rest k cs hK => h4 b₀ a₀ ops n rest k cs (fun X' v w' hr => hK X' v w' (hR X' v w' hr))⟩
theorem Run.con {ops : Array Oper} {n : Nat} {rest : List Nat} {o : Oper} {f : FuncId} {args : Array Operand} {ats : Array TypeId} {vs : Array Value} {R : Cx → Value → World → Prop}
    (hC : Con P X f vs w R) (ho : ops[n]? = some o) (hw : Region.wanted o (yielded ops a.tmps) = true) (hk : b.kind ≠ .early) (hop : o.op = .call { callee := .value (.func f), args, argTypes := ats }) (hv : args.map a.eval = vs)
    (h : ∀ X' v w', R X' v w' → Run P X' (G (b.at (a.put o.dst v) (.inRegion ops rest :: k)) cs) w') :
    Run P X (G (b.at a (.inRegion ops (n :: rest) :: k)) cs) w := by
  subst hv
  obtain ⟨fn, c, h1, h2, h3, h4⟩ := hC
  refine Run.call ho hw hk hop h1 h2 h3 (h4 b a ops n rest k cs (fun X' v w' hr => ?_))
  rw [ho]
  exact h X' v w' hr
end
end Go.Proofs.Ytboiolnnhmlieaa.Gang
