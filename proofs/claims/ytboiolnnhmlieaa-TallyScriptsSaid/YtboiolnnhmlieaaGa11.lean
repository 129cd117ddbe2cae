
/-
  A member's way: the stops at the group's own accesses, one lemma each; what is left to show is what the step makes of the goroutine.
  Conditions: stated lemma by lemma.
-/
import Derived.Test.YtboiolnnhmlieaaGa10
namespace Go.Proofs.Ytboiolnnhmlieaa.Gang
open Go.Conc Go.ConcN
open Go.ConcR (wgBlock WgAt stA smA rd wr KK)
set_option linter.unusedVariables false
set_option linter.unusedSimpArgs false

/-- it only leaves, its count of steps hidden -/
def Qs (P : Program) (d : Nat) (g : Goroutine) : Prop := ∃ n, QuitsD P n d g
section
variable {P : Program} {b : Frame} {a : Act} {k : List Item} {cs : List Frame} {d : Nat}
theorem Qs.ctl {g g' : Goroutine} (hs : g.status = .running) (h : ∀ w, stepG P false g w = .go g' w) (hq : Qs P d g') : Qs P d g := let ⟨_, hn⟩ := hq; ⟨_, QuitsD.ctl hs h hn⟩
theorem Qs.seq {a : Act} {x y : Code} (h : Qs P d (G (b.at a (.code x :: .code y :: k)) cs)) : Qs P d (G (b.at a (.code (.seq x y) :: k)) cs) := Qs.ctl rfl (fun _ => stepG_seq) h
theorem Qs.skip (h : Qs P d (G (b.at a k) cs)) : Qs P d (G (b.at a (.code .skip :: k)) cs) := Qs.ctl rfl (fun _ => stepG_skip) h
theorem Qs.inBlock {id : Nat} (h : Qs P d (G (b.at a k) cs)) : Qs P d (G (b.at a (.inBlock id :: k)) cs) := Qs.ctl rfl (fun _ => stepG_inBlock) h
theorem Qs.block {id : Nat} {c : Code} (h : Qs P d (G (b.at a (.code c :: .inBlock id :: k)) cs)) : Qs P d (G (b.at a (.code (.block id c) :: k)) cs) := Qs.ctl rfl (fun _ => stepG_block) h
theorem Qs.loop {c : Code} (h : Qs P d (G (b.at a (.code c :: .inLoop c :: k)) cs)) : Qs P d (G (b.at a (.code (.loop c) :: k)) cs) := Qs.ctl rfl (fun _ => stepG_loop) h
theorem Qs.inLoop {c : Code} (h : Qs P d (G (b.at a (.code c :: .inLoop c :: k)) cs)) : Qs P d (G (b.at a (.inLoop c :: k)) cs) := Qs.ctl rfl (fun _ => stepG_inLoop) h
theorem Qs.cond {c : Operand} {x y : Code} {t : Bool} (hc : a.eval c = .bool t) (h : Qs P d (G (b.at a (.code (if t then x else y) :: k)) cs)) : Qs P d (G (b.at a (.code (.cond c x y) :: k)) cs) := Qs.ctl rfl (fun _ => stepG_cond hc) h
theorem Qs.exit {id : Nat} {k' : List Item} (he : exitTo id k = some k') (h : Qs P d (G (b.at a k') cs)) : Qs P d (G (b.at a (.code (.exit id) :: k)) cs) := Qs.ctl rfl (fun _ => stepG_exit he) h
theorem Qs.region {id : Nat} {ops : Array Oper} (h : Qs P d (G (b.at a (.inRegion ops (List.range ops.size) :: k)) cs)) : Qs P d (G (b.at a (.code (.region id ops false) :: k)) cs) := Qs.ctl rfl (fun _ => stepG_region) h
theorem Qs.regionEnd {ops : Array Oper} (h : Qs P d (G (b.at a k) cs)) : Qs P d (G (b.at a (.inRegion ops [] :: k)) cs) := Qs.ctl rfl (fun _ => stepG_region_end) h
theorem Qs.ret (h : Qs P d (G { b.at a (.code .ret :: k) with mode := .returning } cs)) : Qs P d (G (b.at a (.code .ret :: k)) cs) := Qs.ctl rfl (fun _ => stepG_ret') h
theorem Qs.fin (h : Qs P d (G { b.at a [] with mode := .returning } cs)) : Qs P d (G (b.at a []) cs) := Qs.ctl rfl (fun _ => stepG_end) h
theorem Qs.value {ops : Array Oper} {i : Nat} {rest : List Nat} {o : Oper} {v : Value} (ho : ops[i]? = some o) (hw : Region.wanted o (yielded ops a.tmps) = true) (hk : b.kind ≠ .early)
    (hr : ∀ w, (execOp a.eval o).run P w = .ok (.value v) w) (he : ∀ w, (execOp a.eval o).events P w #[] = #[])
    (hq : Qs P d (G (b.at (a.put o.dst v) (.inRegion ops rest :: k)) cs)) : Qs P d (G (b.at a (.inRegion ops (i :: rest) :: k)) cs) := let ⟨_, hn⟩ := hq; ⟨_, QuitsD.value v ho hw hk hr he hn⟩
theorem Qs.unwanted {ops : Array Oper} {i : Nat} {rest : List Nat} {o : Oper} (ho : ops[i]? = some o) (hw : Region.wanted o (yielded ops a.tmps) = false)
    (hq : Qs P d (G (b.at (a.put o.dst undef) (.inRegion ops rest :: k)) cs)) : Qs P d (G (b.at a (.inRegion ops (i :: rest) :: k)) cs) := let ⟨_, hn⟩ := hq; ⟨_, QuitsD.unwanted ho hw hn⟩
section
variable {fn : Func} {todo : List Item} {ds : List Deferred} {f : FuncId} {b₀ : Frame} {a₀ : Act} {ops : Array Oper} {i : Nat} {rest : List Nat}
theorem Qs.enable (hd : a.defers = dcall f #[] :: ds) (hf : P.funcs[f]? = some fn) (hname : (fn.name == "runtime.NumGoroutine") = false) (hb : fn.body.isNone = true) (hn : Extern.findNext fn = none)
    (he : Extern.find fn = some (fun _ => do mark .enable; pure Extern.Race.none_)) (hq : Qs P 0 (G { b.at ⟨a.tmps, ds⟩ todo with mode := .returning } cs)) : Qs P 1 (G { b.at a todo with mode := .returning } cs) :=
  let ⟨_, hq⟩ := hq; ⟨_, QuitsD.unwind_mark .enable rfl (by simp) hd hf hname hb hn he (by simpa [deafBehind] using hq)⟩
theorem Qs.leave0 (hn : b.kind = .normal) (hd : a.defers = []) (hf : P.funcs[b.fn]? = some fn) (hr : fn.results = #[])
    (hq : Qs P d (G (b₀.at (a₀.put ((ops[i]?).bind (·.dst)) (.tuple #[])) (.inRegion ops rest :: k)) cs)) :
    Qs P d (G { b.at a todo with mode := .returning } (b₀.at a₀ (.inRegion ops (i :: rest) :: k) :: cs)) := let ⟨_, hq⟩ := hq; ⟨_, QuitsD.leave0 hn hd hf hr hq⟩
theorem Qs.leave1 {t : Tmp} (hn : b.kind = .normal) (hd : a.defers = []) (hf : P.funcs[b.fn]? = some fn) (hr : fn.results = #[.tmp t])
    (hq : Qs P d (G (b₀.at (a₀.put ((ops[i]?).bind (·.dst)) (a.tmps.getD t undef)) (.inRegion ops rest :: k)) cs)) :
    Qs P d (G { b.at a todo with mode := .returning } (b₀.at a₀ (.inRegion ops (i :: rest) :: k) :: cs)) := let ⟨_, hq⟩ := hq; ⟨_, QuitsD.leave1 hn hd hf hr hq⟩
theorem Qs.leaveD {c : Frame} (hn : b.kind = .deferred) (hd : a.defers = []) (hf : P.funcs[b.fn]? = some fn) (hr : fn.results = #[]) (hc : c.mode = .returning)
    (hq : Qs P d (G c cs)) : Qs P d (G { b.at a todo with mode := .returning } (c :: cs)) := let ⟨_, hq⟩ := hq; ⟨_, QuitsD.leaveD hn hd hf hr hc hq⟩
end
end

section
variable {X Lam : Type} {P : Program} {J : Job P X Lam} {i : Nat} {p : Pos Lam} {w : World}
/-- what the group asks of a job -/
structure Job.Grp (J : Job P X Lam) : Prop where
  shb : J.Shb J.Wg
  cx : ∀ x w w', J.cx x w → (∀ b, b ≠ J.Wg → w'.heap[b]? = w.heap[b]?) → J.cx x w'
  n31 : J.B.n < 2147483647
  shWg : ∀ a : Addr, a.block = J.Wg → J.L.Sh (.cell a)
  wgB : J.Wg < J.Bd

theorem Turn.of_aside (F : J.Grp) {w w' : World} (h : Aside J.Wg w w') (hl : liveAt J.ty J.Wg w → liveAt J.ty J.Wg w') : J.Turn w w' :=
  ⟨⟨h.tape, h.os, h.output⟩, h.size, fun b hb => h.block b (fun e => hb (e ▸ F.shb)), hl⟩
theorem turn_st (F : J.Grp) {w : World} (v : Int) : J.Turn w (w.setCell (stA J.Wg) (.int .u64 v)) := Turn.of_aside F (aside_setCell w (stA J.Wg) _) (fun ⟨st, sm, h⟩ => ⟨v, sm, h.setSt v⟩)
theorem turn_sm (F : J.Grp) {w : World} (v : Int) : J.Turn w (w.setCell (smA J.Wg) (.int .u32 v)) := Turn.of_aside F (aside_setCell w (smA J.Wg) _) (fun ⟨st, sm, h⟩ => ⟨st, v, h.setSm v⟩)
theorem conc_st (F : J.Grp) {s : St X} {w : World} (h : J.conc s w) {v wt : Nat} {z : Int} (hz : z = (v : Int) * KK + wt) : J.conc { s with v := v, wt := wt } (w.setCell (stA J.Wg) (.int .u64 z)) :=
  ⟨by rw [← hz]; exact h.1.setSt z, F.cx _ _ _ h.2 (fun b hb => (aside_setCell w (stA J.Wg) _).block b hb)⟩
theorem conc_sm (F : J.Grp) {s : St X} {w : World} (h : J.conc s w) {m : Nat} {z : Int} (hz : z = m) : J.conc { s with sm := m } (w.setCell (smA J.Wg) (.int .u32 z)) :=
  ⟨by rw [hz]; exact h.1.setSm _, F.cx _ _ _ h.2 (fun b hb => (aside_setCell w (smA J.Wg) _).block b hb)⟩
theorem live_rely {w w' : World} (h : J.rely i w w') (hl : liveAt J.ty J.Wg w) : liveAt J.ty J.Wg w' := by
  unfold Job.rely at h
  split at h
  · exact h.live hl
  · exact h.live hl

/-- a word said -/
theorem W.word {g g' : Goroutine} {es : Array Event} (p' : Pos Lam) (hq : p.quit = false) (hs : g.status = .running) (ho : g.offers = none) (hn : ∀ s, J.B.next p s = .act s p') (hev : J.ev i p p' es) (hwk : p.wakes = false) (h : ∀ w₁, J.rely i w w₁ → stepG P (i == 0) g w₁ = .go g' w₁ es) (hW : J.W i p' g' w) : J.W i p g w :=
  W.act hq hs ho (fun w₁ h₁ s hok hc => ⟨s, p', hn s, g', w₁, es, h w₁ h₁, hc, Turn.refl w₁, hev, hW, fun e => by rw [hwk] at e; cases e⟩)
/-- the first's add -/
theorem W.a1 (F : J.Grp) {k : Nat} {g : Goroutine} {g' : Nat → Goroutine} (hs : g.status = .running) (ho : g.offers = none)
    (h : ∀ w₁ (v : Nat), v < J.B.n → WgAt J.ty J.Wg w₁ ((v : Int) * KK + (0 : Nat)) (0 : Nat) → stepG P true g w₁ = .go (g' v) (w₁.setCell (stA J.Wg) (.int .u64 (((v + 1 : Nat) : Int) * KK + (0 : Nat)))) #[rd (stA J.Wg), wr (stA J.Wg)])
    (hW : ∀ v : Nat, v < J.B.n → J.W 0 (.keS k) (g' v) w) : J.W 0 (.a1 k) g w := by
  refine W.act rfl hs ho (fun w₁ h₁ s hok hc => ?_)
  obtain ⟨h1, h2, h3⟩ : s.v < J.B.n ∧ s.wt = 0 ∧ s.sm = 0 := hok
  obtain ⟨v, wt, sm, x⟩ := s
  simp only at h1 h2 h3
  subst h2; subst h3
  exact ⟨_, _, rfl, g' v, _, _, h w₁ v h1 hc.1, conc_st F hc rfl, turn_st F _, .inr (.inr (.inl rfl)), hW v h1, fun e => by cases e⟩
/-- Done's add -/
theorem W.d1 (F : J.Grp) {g : Goroutine} {g' : Nat → Nat → Goroutine} (hi : (i == 0) = false) (hs : g.status = .running) (ho : g.offers = none)
    (h : ∀ w₁ (v wt : Nat), v < J.B.n → wt ≤ 1 → WgAt J.ty J.Wg w₁ (((v + 1 : Nat) : Int) * KK + wt) (0 : Nat) → stepG P false g w₁ = .go (g' v wt) (w₁.setCell (stA J.Wg) (.int .u64 ((v : Int) * KK + wt))) #[rd (stA J.Wg), wr (stA J.Wg)])
    (hW : J.W i .d2 (g' 0 1) w) (hQ : ∀ v wt : Nat, v < J.B.n → wt ≤ 1 → ¬ (v = 0 ∧ wt = 1) → Qs P 1 (g' v wt)) : J.W i .d1 g w := by
  refine W.act rfl hs ho (fun w₁ h₁ s hok hc => ?_)
  obtain ⟨h1, h2, h3, h4⟩ : 1 ≤ s.v ∧ s.v ≤ J.B.n ∧ s.wt ≤ 1 ∧ s.sm = 0 := hok
  obtain ⟨v, wt, sm, x⟩ := s
  simp only at h1 h2 h3 h4
  subst h4
  obtain ⟨v, rfl⟩ : ∃ u, v = u + 1 := ⟨v - 1, by omega⟩
  refine ⟨_, _, rfl, g' v wt, _, _, by rw [hi]; exact h w₁ v wt (by omega) h3 hc.1, conc_st F hc rfl, turn_st F _, .inr (.inr (.inl rfl)), ?_, fun e => by cases e⟩
  simp only
  split
  · next e =>
    obtain ⟨e1, e2⟩ := e
    obtain rfl : v = 0 := by omega
    subst e2
    exact hW
  · next e =>
    obtain ⟨n, hn⟩ := hQ v wt (by omega) h3 (fun hh => e ⟨by omega, hh.2⟩)
    exact W.quit rfl hn
theorem W.d2 {g g' : Goroutine} (hi : (i == 0) = false) (hs : g.status = .running) (ho : g.offers = none)
    (h : ∀ w₁, WgAt J.ty J.Wg w₁ 1 0 → stepG P false g w₁ = .go g' w₁ #[rd (stA J.Wg)]) (hW : J.W i .d3 g' w) : J.W i .d2 g w := by
  refine W.act rfl hs ho (fun w₁ h₁ s hok hc => ?_)
  obtain ⟨h1, h2, h3⟩ : s.v = 0 ∧ s.wt = 1 ∧ s.sm = 0 := hok
  have hw : WgAt J.ty J.Wg w₁ 1 0 := by have := hc.1; rw [h1, h2, h3] at this; simpa using this
  exact ⟨_, _, rfl, g', _, _, by rw [hi]; exact h w₁ hw, hc, Turn.refl w₁, .inl rfl, hW, fun e => by cases e⟩
theorem W.d3 (F : J.Grp) {g g' : Goroutine} (hi : (i == 0) = false) (hs : g.status = .running) (ho : g.offers = none)
    (h : ∀ w₁, WgAt J.ty J.Wg w₁ 1 0 → stepG P false g w₁ = .go g' (w₁.setCell (stA J.Wg) (.int .u64 0)) #[wr (stA J.Wg)]) (hW : J.W i .d4 g' w) : J.W i .d3 g w := by
  refine W.act rfl hs ho (fun w₁ h₁ s hok hc => ?_)
  obtain ⟨h1, h2, h3⟩ : s.v = 0 ∧ s.wt = 1 ∧ s.sm = 0 := hok
  have hw : WgAt J.ty J.Wg w₁ 1 0 := by have := hc.1; rw [h1, h2, h3] at this; simpa using this
  obtain ⟨v, wt, sm, x⟩ := s
  simp only at h1 h2 h3
  subst h1; subst h2; subst h3
  exact ⟨_, _, rfl, g', _, _, by rw [hi]; exact h w₁ hw, conc_st F hc (by simp), turn_st F _, .inr (.inl rfl), hW, fun e => by cases e⟩
theorem W.d4 (F : J.Grp) {g g' : Goroutine} (hi : (i == 0) = false) (hs : g.status = .running) (ho : g.offers = none) (hm : mayWake P g = true) (hs' : g'.status = .running)
    (h : ∀ w₁, WgAt J.ty J.Wg w₁ 0 0 → stepG P false g w₁ = .go g' (w₁.setCell (smA J.Wg) (.int .u32 1)) (semEvents (smA J.Wg))) (hQ : Qs P 1 g') : J.W i .d4 g w := by
  obtain ⟨n, hQ⟩ := hQ
  refine W.act rfl hs ho (fun w₁ h₁ s hok hc => ?_)
  obtain ⟨h1, h2, h3⟩ : s.v = 0 ∧ s.wt = 0 ∧ s.sm = 0 := hok
  have hw : WgAt J.ty J.Wg w₁ 0 0 := by have := hc.1; rw [h1, h2, h3] at this; simpa using this
  exact ⟨_, _, rfl, g', _, _, by rw [hi]; exact h w₁ hw, conc_sm F hc (m := 1) rfl, turn_sm F _, .inr (.inr (.inr rfl)), W.quit rfl hQ, fun _ => ⟨hm, hs'⟩⟩
/-- the load: 0 or more -/
theorem C.w1 (F : J.Grp) {g : Goroutine} {g' : Nat → Goroutine} (hs : g.status = .running) (ho : g.offers = none)
    (h : ∀ w₁ (v : Nat), v ≤ J.B.n → WgAt J.ty J.Wg w₁ ((v : Int) * KK + (0 : Nat)) (0 : Nat) → stepG P true g w₁ = .go (g' v) w₁ #[rd (stA J.Wg)])
    (h0 : J.W 0 .ke (g' 0) w) (hW : ∀ v : Nat, v ≤ J.B.n → v ≠ 0 → J.W 0 (.w2 v) (g' v) w) : J.C 0 .w1 g w := by
  refine C.act rfl hs ho (fun w₁ h₁ s hok hc => ?_)
  obtain ⟨h1, h2, h3⟩ : s.v ≤ J.B.n ∧ s.wt = 0 ∧ s.sm = 0 := hok
  obtain ⟨v, wt, sm, x⟩ := s
  simp only at h1 h2 h3
  subst h2; subst h3
  refine ⟨_, _, rfl, g' v, _, _, h w₁ v h1 hc.1, hc, Turn.refl w₁, .inl rfl, ?_, fun e => by cases e⟩
  simp only
  split
  · next e => subst e; exact h0
  · next e => exact hW v h1 e
/-- the CompareAndSwap: it hits, or misses -/
theorem W.w2 (F : J.Grp) {u : Nat} {g g' g'' : Goroutine} (hs : g.status = .running) (ho : g.offers = none)
    (h : u ≤ J.B.n → ∀ w₁, WgAt J.ty J.Wg w₁ ((u : Int) * KK + (0 : Nat)) (0 : Nat) → stepG P true g w₁ = .go g' (w₁.setCell (stA J.Wg) (.int .u64 ((u : Int) * KK + (1 : Nat)))) #[rd (stA J.Wg), wr (stA J.Wg)])
    (h' : u ≤ J.B.n → ∀ w₁ (v : Nat), v ≤ J.B.n → v ≠ u → WgAt J.ty J.Wg w₁ ((v : Int) * KK + (0 : Nat)) (0 : Nat) → stepG P true g w₁ = .go g'' w₁ #[rd (stA J.Wg)])
    (hW : u ≤ J.B.n → J.W 0 .w3 g' w) (hW' : u ≤ J.B.n → J.W 0 .w1 g'' w) : J.W 0 (.w2 u) g w := by
  refine W.act rfl hs ho (fun w₁ h₁ s hok hc => ?_)
  obtain ⟨h1, h2, h2', h3, h4⟩ : s.v ≤ u ∧ 1 ≤ u ∧ u ≤ J.B.n ∧ s.wt = 0 ∧ s.sm = 0 := hok
  obtain ⟨v, wt, sm, x⟩ := s
  simp only at h1 h3 h4
  subst h3; subst h4
  by_cases e : v = u
  · subst e
    have hn : J.B.next (.w2 v) ⟨v, 0, 0, x⟩ = .act ⟨v, 1, 0, x⟩ .w3 := by simp [Body.next]
    exact ⟨_, _, hn, g', _, _, h h2' w₁ hc.1, conc_st F hc rfl, turn_st F _, .inr (.inr (.inl rfl)), hW h2', fun e => by cases e⟩
  · have hn : J.B.next (.w2 u) ⟨v, 0, 0, x⟩ = .act ⟨v, 0, 0, x⟩ .w1 := by simp [Body.next, e]
    exact ⟨_, _, hn, g'', _, _, h' h2' w₁ v (by omega) e hc.1, hc, Turn.refl w₁, .inl rfl, hW' h2', fun e => by cases e⟩
/-- the semaphore: it waits, or takes -/
theorem W.w3 (F : J.Grp) {g g' : Goroutine} (hs : g.status = .running) (ho : g.offers = none)
    (hb : ∀ w₁ (st : Int), WgAt J.ty J.Wg w₁ st 0 → stepG P true g w₁ = .go { g with status := .blocked } w₁ #[])
    (h : ∀ w₁, WgAt J.ty J.Wg w₁ 0 1 → stepG P true g w₁ = .go g' (w₁.setCell (smA J.Wg) (.int .u32 0)) (semEvents (smA J.Wg))) (hW : J.W 0 .w4 g' w) : J.W 0 .w3 g w := by
  refine W.stop rfl (fun w₁ h₁ => ⟨hs, ho, fun s hok hc => ?_⟩)
  have hok : (s.sm = 0 ∧ s.v ≤ J.B.n ∧ s.wt ≤ 1) ∨ (s.sm = 1 ∧ s.v = 0 ∧ s.wt = 0) := hok
  have hc : J.conc s w₁ := hc
  obtain ⟨v, wt, sm, x⟩ := s
  simp only at hok
  rcases hok with ⟨h0, h1, h2⟩ | ⟨h0, h1, h2⟩
  · subst h0
    have hn : (J.put J.W).team.next 0 .w3 ⟨v, wt, 0, x⟩ = .block := rfl
    rw [hn]
    exact hb w₁ _ hc.1
  · subst h0; subst h1; subst h2
    have hn : (J.put J.W).team.next 0 .w3 ⟨0, 0, 1, x⟩ = .act ⟨0, 0, 0, x⟩ .w4 := rfl
    rw [hn]
    have hw : WgAt J.ty J.Wg w₁ 0 1 := by have := hc.1; simpa using this
    exact ⟨g', _, _, h w₁ hw, conc_sm F hc (m := 0) rfl, fun k _ => Turn.rely (turn_sm F _), .inr (.inr (.inr rfl)), W.rely hW (rely_trans h₁ (Turn.rely (turn_sm F _))), fun e => by cases e⟩
theorem W.w4 {g g' : Goroutine} (hs : g.status = .running) (ho : g.offers = none)
    (h : ∀ w₁, WgAt J.ty J.Wg w₁ 0 0 → stepG P true g w₁ = .go g' w₁ #[rd (stA J.Wg)]) (hW : J.W 0 .ke g' w) : J.W 0 .w4 g w := by
  refine W.act rfl hs ho (fun w₁ h₁ s hok hc => ?_)
  obtain ⟨h1, h2, h3⟩ : s.v = 0 ∧ s.wt = 0 ∧ s.sm = 0 := hok
  have hw : WgAt J.ty J.Wg w₁ 0 0 := by have := hc.1; rw [h1, h2, h3] at this; simpa using this
  exact ⟨_, _, rfl, g', _, _, h w₁ hw, hc, Turn.refl w₁, .inl rfl, hW, fun e => by cases e⟩
/-- a said access of the group's cell, that counts for nothing -/
theorem ev_said (F : J.Grp) {j : Nat} (a : Addr) (ha : a.block = J.Wg) (m : Addr → Mark) (hm : m = .read ∨ m = .write) : EvM J.L J.c J.Bd j ⟨.mark (m a), false, true⟩ := by
  rcases hm with rfl | rfl
  · refine ⟨fun fn pos => ⟨rfl, fun x hx => ?_⟩, by simp, by simp, by simp, ?_⟩
    · simp only [MemAct.ofEvent, MemAct.touch?, Option.some.injEq] at hx
      subst hx
      exact .inl ⟨F.shWg a ha, by simp⟩
    · show a.block < J.Bd
      rw [ha]; exact F.wgB
  · refine ⟨fun fn pos => ⟨rfl, fun x hx => ?_⟩, by simp, by simp, by simp, ?_⟩
    · simp only [MemAct.ofEvent, MemAct.touch?, Option.some.injEq] at hx
      subst hx
      exact .inl ⟨F.shWg a ha, by simp⟩
    · show a.block < J.Bd
      rw [ha]; exact F.wgB
theorem step_said (F : J.Grp) {p : Pos Lam} {w : World} (a : Addr) (ha : a.block = J.Wg) (m : Addr → Mark) (hm : m = .read ∨ m = .write) : J.step 0 p w w #[⟨.mark (m a), false, true⟩] := by
  unfold Job.step
  rw [if_pos rfl]
  refine ⟨⟨.refl w, Nat.le_refl _, fun _ _ => rfl⟩, fun e he => ?_⟩
  rw [Array.mem_singleton] at he
  subst he
  exact ev_said F a ha m hm
end
end Go.Proofs.Ytboiolnnhmlieaa.Gang
