
/-
  A member's way through what it reads and what it shares: loads of cells that stand; the actions of a body on one shared block.
  Conditions: stated lemma by lemma.
-/
import Derived.Test.YtboiolnnhmlieaaGa11
namespace Go.Proofs.Ytboiolnnhmlieaa.Gang
open Go.Conc Go.ConcN
open Go.ConcR (wgBlock WgAt stA smA rd wr KK)
set_option linter.unusedVariables false
set_option linter.unusedSimpArgs false

section
variable {X Lam : Type} {P : Program} {J : Job P X Lam} {i : Nat} {p : Pos Lam} {b : Frame} {a : Act} {k : List Item} {cs : List Frame} {w : World}
theorem cell_heap {w w₁ : World} {ad : Addr} (h : w₁.heap[ad.block]? = w.heap[ad.block]?) : w₁.cell? ad = w.cell? ad := by
  unfold World.cell?; rw [h]
/-- a block that stands for member i -/
def Job.Still (J : Job P X Lam) (i : Nat) (b : Nat) : Prop := ¬ J.Shb b ∧ (i ≠ 0 → b < J.Lw i)
theorem heap_rely {w w₁ : World} (h : J.rely i w w₁) {b : Nat} (hb : J.Still i b) : w₁.heap[b]? = w.heap[b]? := by
  unfold Job.rely at h
  split at h
  · exact h.low b hb.1
  · next e => exact h.low b (hb.2 e) hb.1
theorem cell_rely {w w₁ : World} (h : J.rely i w w₁) {ad : Addr} (hb : J.Still i ad.block) : w₁.cell? ad = w.cell? ad := cell_heap (heap_rely h hb)
/-- what member i may list on its way from p -/
def Job.Says (J : Job P X Lam) (i : Nat) (p : Pos Lam) (e : Event) : Prop := (i = 0 → EvM J.L J.c J.Bd (p.num J.B.n) e) ∧ (i ≠ 0 → past p = false ∧ EvK J.L J.c J.Bd i e)
theorem step_says {w : World} {es : Array Event} (h : ∀ e ∈ es, J.Says i p e) : J.step i p w w es := by
  unfold Job.step
  split
  · next e0 => exact ⟨⟨.refl w, Nat.le_refl _, fun _ _ => rfl⟩, fun e he => (h e he).1 e0⟩
  · next e0 =>
    refine ⟨⟨.refl w, rfl⟩, ?_⟩
    split
    · next hp => exact fun e he => by have := ((h e he).2 e0).1; rw [hp] at this; cases this
    · exact fun e he => ((h e he).2 e0).2
/-- an operation that reads -/
theorem C.opm {ops : Array Oper} {n : Nat} {rest : List Nat} {o : Oper} {a' : Act} (hq : p.quit = false) (ho : ops[n]? = some o) (hw : Region.wanted o (yielded ops a.tmps) = true) (hk : b.kind ≠ .early)
    (h : ∀ w₁, J.rely i w w₁ → ∀ K : Act → World → Prop, K a' w₁ → uponK o a K ((execOp a.eval o).run P w₁)) (he : ∀ w₁, J.rely i w w₁ → ∀ e ∈ (execOp a.eval o).events P w₁ #[], J.Says i p e) (hW : J.C i p (G (b.at a' (.inRegion ops rest :: k)) cs) w) :
    J.C i p (G (b.at a (.inRegion ops (n :: rest) :: k)) cs) w :=
  C.of_goes rfl (fun w₁ h₁ => goes_oper_k ho hw hk (fun K hK => h w₁ h₁ K (hK _ _ ⟨rfl, rfl, step_says (fun e hm => he w₁ h₁ e (mem_listed hm))⟩))) hq hW
theorem W.opm {ops : Array Oper} {n : Nat} {rest : List Nat} {o : Oper} {a' : Act} (hq : p.quit = false) (ho : ops[n]? = some o) (hw : Region.wanted o (yielded ops a.tmps) = true) (hk : b.kind ≠ .early)
    (h : ∀ w₁, J.rely i w w₁ → ∀ K : Act → World → Prop, K a' w₁ → uponK o a K ((execOp a.eval o).run P w₁)) (he : ∀ w₁, J.rely i w w₁ → ∀ e ∈ (execOp a.eval o).events P w₁ #[], J.Says i p e) (hW : J.W i p (G (b.at a' (.inRegion ops rest :: k)) cs) w) :
    J.W i p (G (b.at a (.inRegion ops (n :: rest) :: k)) cs) w :=
  W.of_goes rfl (fun w₁ h₁ => goes_oper_k ho hw hk (fun K hK => h w₁ h₁ K (hK _ _ ⟨rfl, rfl, step_says (fun e hm => he w₁ h₁ e (mem_listed hm))⟩))) hq hW
/-- a worker's reading of a cell that it may read -/
theorem says_read {ad : Addr} {s : Bool} (h1 : 1 ≤ i) (hp : past p = false) (hr : J.L.Rd i (.cell ad)) (hs : ¬ J.L.Sh (.cell ad)) (hb : ad.block < J.Bd) : J.Says i p ⟨.cell ad, false, false⟩ := by
  refine ⟨fun e => by omega, fun _ => ⟨hp, ⟨fun fn pos => ⟨rfl, fun x hx => ?_⟩, by simp, by simp, by simp, hb, fun x hx hk => ?_⟩⟩⟩
  · simp only [MemAct.ofEvent, MemAct.touch?, Option.some.injEq] at hx
    subst hx
    exact .inr (.inr (.inr ⟨⟨i, h1, rfl, hr⟩, rfl⟩))
  · simp only [MemAct.ofEvent, MemAct.touch?, Option.some.injEq] at hx
    subst hx
    simp at hk
/-- a worker's access of a shared cell -/
theorem ev_shared {ad : Addr} {x : Bool} (hs : J.L.Sx (.cell ad)) (hb : ad.block < J.Bd) : EvK J.L J.c J.Bd i ⟨.cell ad, x, true⟩ := by
  refine ⟨fun fn pos => ⟨rfl, fun y hy => ?_⟩, by simp, by simp, by simp, hb, fun y hy hk => ?_⟩
  · simp only [MemAct.ofEvent, MemAct.touch?, Option.some.injEq] at hy
    subst hy
    exact .inr (.inl ⟨hs, rfl⟩)
  · simp only [MemAct.ofEvent, MemAct.touch?, Option.some.injEq] at hy
    subst hy
    exact .inr hs
/-- A BODY's ACTION on one shared block T -/
theorem W.body {T : Nat} {l : Lam} {g : Goroutine} (hi : (i == 0) = false) (hT : J.Shb T) (hTW : T ≠ J.Wg) (hs : g.status = .running) (ho : g.offers = none)
    (h : ∀ w₁, J.rely i w w₁ → ∀ x, J.okB l x → J.cx x w₁ → ∃ g' w' es, stepG P false g w₁ = .go g' w' es ∧ J.cx (J.B.stp l x).1 w' ∧ Aside T w₁ w' ∧ (∀ e ∈ es, EvK J.L J.c J.Bd i e) ∧ J.W i (J.B.enter (J.B.stp l x).2) g' w) : J.W i (.body l) g w := by
  refine W.act rfl hs ho (fun w₁ h₁ s hok hc => ?_)
  obtain ⟨g', w', es, k1, k2, k3, k4, k5⟩ := h w₁ h₁ s.x hok hc.2
  have hwg : w'.heap[J.Wg]? = w₁.heap[J.Wg]? := k3.block _ (fun e => hTW e.symm)
  refine ⟨_, _, rfl, g', w', es, by rw [hi]; exact k1, ⟨hc.1.of_block hwg, k2⟩, ?_, k4, k5, fun e => by cases e⟩
  exact ⟨⟨k3.tape, k3.os, k3.output⟩, k3.size, fun b hb => k3.block b (fun e => hb (e ▸ hT)), fun ⟨st, sm, hl⟩ => ⟨st, sm, hl.of_block hwg⟩⟩
end
end Go.Proofs.Ytboiolnnhmlieaa.Gang
