
/-
  A member's way: what its walk comes to, its count of steps hidden; the rules of the walk.
  Conditions: stated lemma by lemma.
-/
import Derived.Test.YtboiolnnhmlieaaGa8
import Derived.Conc.CrowdMono
import Derived.Conc.WgWords
namespace Go.Proofs.Ytboiolnnhmlieaa.Gang
open Go.Conc Go.ConcN
open Go.ConcR (wgBlock WgAt stA smA rd wr KK)
set_option linter.unusedVariables false
set_option linter.unusedSimpArgs false

section
variable {X Lam : Type} {P : Program}
def Job.put (J : Job P X Lam) (Y : Nat → Pos Lam → Goroutine → World → Prop) : Job P X Lam := { J with sit := Y }
/-- one unfolding -/
def Job.Unf (J : Job P X Lam) (Z : Nat → Pos Lam → Goroutine → World → Prop) (i : Nat) (p : Pos Lam) (g : Goroutine) (w : World) : Prop :=
  (p.quit = false → ∃ n, Goes P (i == 0) (J.rely i) (J.step i p) (Stop (J.put Z).team i p) n g w) ∧ (p.quit = true → ∃ n, QuitsD P n 1 g)
/-- what a step that turns nothing is -/
def Job.Same (J : Job P X Lam) (i : Nat) (p : Pos Lam) (g g' : Goroutine) (w : World) : Prop := ∀ w₁, J.rely i w w₁ → (stepG P (i == 0) g w₁).goes fun g1 w1 es => g1 = g' ∧ w1 = w₁ ∧ J.step i p w₁ w1 es
/-- on its way to where the job's 'sit' says -/
inductive Job.Lead (J : Job P X Lam) (i : Nat) (p : Pos Lam) : Goroutine → World → Prop
  | here {g : Goroutine} {w : World} : (∀ w', J.rely i w w' → J.sit i p g w') → J.Lead i p g w
  | step {g g' : Goroutine} {w : World} : g.status = .running → J.Same i p g g' w → p.quit = false → J.Lead i p g' w → J.Lead i p g w
/-- the core: the least that is closed; behind an action it may be on its way to 'sit' -/
def Job.C (J : Job P X Lam) (i : Nat) (p : Pos Lam) (g : Goroutine) (w : World) : Prop := ∀ Z : Nat → Pos Lam → Goroutine → World → Prop, (∀ i p g w, J.Unf (fun i p g w => Z i p g w ∨ J.Lead i p g w) i p g w → Z i p g w) → Z i p g w
/-- THE WAY of member i from place p -/
def Job.W (J : Job P X Lam) (i : Nat) (p : Pos Lam) (g : Goroutine) (w : World) : Prop := J.C i p g w ∨ J.Lead i p g w

variable {J : Job P X Lam}
theorem stop_mono {Y Z : Nat → Pos Lam → Goroutine → World → Prop} (h : ∀ i p g w, Y i p g w → Z i p g w) {i : Nat} {p : Pos Lam} {g : Goroutine} {w : World} (hs : Stop (J.put Y).team i p g w) : Stop (J.put Z).team i p g w := by
  obtain ⟨h1, h2, h3⟩ := hs
  refine ⟨h1, h2, fun s ho hc => ?_⟩
  have h3 := h3 s ho hc
  have e : (J.put Y).team.next i p s = (J.put Z).team.next i p s := rfl
  rw [← e]
  cases hn : (J.put Y).team.next i p s with
  | act s' p' =>
    rw [hn] at h3
    obtain ⟨g', w', es, k1, k2, k3, k4, k5, k6⟩ := h3
    exact ⟨g', w', es, k1, k2, k3, k4, h _ _ _ _ k5, k6⟩
  | block => rw [hn] at h3; exact h3
  | spawn s' p' q =>
    rw [hn] at h3
    obtain ⟨g', child, w', k1, k2, k3, k4, k5, k6⟩ := h3
    exact ⟨g', child, w', k1, k2, k3, h _ _ _ _ k4, k5, h _ _ _ _ k6⟩
  | fin => rw [hn] at h3; exact h3
theorem unf_mono {Y Z : Nat → Pos Lam → Goroutine → World → Prop} (h : ∀ i p g w, Y i p g w → Z i p g w) {i : Nat} {p : Pos Lam} {g : Goroutine} {w : World} (hu : J.Unf Y i p g w) : J.Unf Z i p g w :=
  ⟨fun hq => by obtain ⟨n, hn⟩ := hu.1 hq; exact ⟨n, goes_mono (fun g w => stop_mono h) hn⟩, hu.2⟩
theorem C.fold {i : Nat} {p : Pos Lam} {g : Goroutine} {w : World} (h : J.Unf J.W i p g w) : J.C i p g w := fun Z hZ => hZ _ _ _ _ (unf_mono (fun i p g w hv => hv.imp (fun hw => hw Z hZ) id) h)
theorem C.unf {i : Nat} {p : Pos Lam} {g : Goroutine} {w : World} (h : J.C i p g w) : J.Unf J.W i p g w := h _ (fun i p g w hu => unf_mono (fun _ _ _ _ hv => hv.imp C.fold id) hu)

theorem Job.idle (J : Job P X Lam) (i : Nat) (p : Pos Lam) (w : World) : J.step i p w w #[] := by
  unfold Job.step
  split
  · exact ⟨⟨.refl w, Nat.le_refl _, fun _ _ => rfl⟩, fun e he => by simp at he⟩
  · refine ⟨⟨.refl w, rfl⟩, ?_⟩
    split <;> exact fun e he => by simp at he
theorem Job.quiet (J : Job P X Lam) (i : Nat) (p : Pos Lam) (w : World) {es : Array Event} (h : es = #[]) : J.step i p w w es := by rw [h]; exact J.idle i p w
theorem rely_trans {i : Nat} {a b c : World} (h : J.rely i a b) (k : J.rely i b c) : J.rely i a c := by
  unfold Job.rely at h k ⊢
  split
  · next e =>
    rw [if_pos e] at h k
    exact ⟨h.out.trans k.out, k.size.trans h.size, fun b hb => (k.low b hb).trans (h.low b hb), fun hl => k.live (h.live hl)⟩
  · next e =>
    rw [if_neg e] at h k
    exact ⟨h.out.trans k.out, Nat.le_trans h.size k.size, fun b hb hs => (k.low b hb hs).trans (h.low b hb hs), fun hl => k.live (h.live hl)⟩
theorem rely_refl {i : Nat} (w : World) : J.rely i w w := by
  unfold Job.rely
  split
  · exact ⟨.refl w, rfl, fun _ _ => rfl, id⟩
  · exact ⟨.refl w, Nat.le_refl _, fun _ _ _ => rfl, id⟩
theorem Same.rely {i : Nat} {p : Pos Lam} {g g' : Goroutine} {w w₁ : World} (h : J.Same i p g g' w) (hr : J.rely i w w₁) : J.Same i p g g' w₁ := fun w₂ h₂ => h w₂ (rely_trans hr h₂)
theorem C.rely {i : Nat} {p : Pos Lam} {g : Goroutine} {w w₁ : World} (h : J.C i p g w) (hr : J.rely i w w₁) : J.C i p g w₁ := by
  obtain ⟨h1, h2⟩ := C.unf h
  refine C.fold ⟨fun hq => ?_, h2⟩
  obtain ⟨n, hn⟩ := h1 hq
  exact ⟨n, hn.rely (fun a b c => rely_trans (J := J) (i := i) (a := a) (b := b) (c := c)) hr⟩
theorem Lead.rely {i : Nat} {p : Pos Lam} {g : Goroutine} {w w₁ : World} (h : J.Lead i p g w) (hr : J.rely i w w₁) : J.Lead i p g w₁ := by
  induction h with
  | here h => exact .here (fun w' h' => h w' (rely_trans hr h'))
  | step h1 h2 h3 _ ih => exact .step h1 (Same.rely h2 hr) h3 (ih hr)
theorem C.of_goes {i : Nat} {p : Pos Lam} {g g' : Goroutine} {w : World} (hs : g.status = .running) (h : J.Same i p g g' w) (hq : p.quit = false) (hW : J.C i p g' w) : J.C i p g w := by
  obtain ⟨n, hn⟩ := (C.unf hW).1 hq
  refine C.fold ⟨fun _ => ⟨n + 1, Goes.step hs fun w₁ h₁ => ?_⟩, fun e => by rw [hq] at e; cases e⟩
  have := h w₁ h₁
  cases hst : stepG P (i == 0) g w₁ with
  | go g1 w1 es =>
    rw [hst] at this
    obtain ⟨rfl, rfl, hd⟩ := this
    exact ⟨hd, hn.rely (fun a b c => rely_trans (J := J) (i := i) (a := a) (b := b) (c := c)) h₁⟩
  | _ => rw [hst] at this; exact this.elim
/-- the others' doing does not unseat it -/
theorem W.rely {i : Nat} {p : Pos Lam} {g : Goroutine} {w w₁ : World} (h : J.W i p g w) (hr : J.rely i w w₁) : J.W i p g w₁ := h.imp (fun h => C.rely h hr) (fun h => Lead.rely h hr)
/-- a stop -/
theorem C.stop {i : Nat} {p : Pos Lam} {g : Goroutine} {w : World} (hq : p.quit = false) (h : ∀ w₁, J.rely i w w₁ → Stop (J.put J.W).team i p g w₁) : J.C i p g w :=
  C.fold ⟨(fun _ => ⟨0, h⟩), (fun e => by rw [hq] at e; cases e)⟩
theorem W.stop {i : Nat} {p : Pos Lam} {g : Goroutine} {w : World} (hq : p.quit = false) (h : ∀ w₁, J.rely i w w₁ → Stop (J.put J.W).team i p g w₁) : J.W i p g w := .inl (C.stop hq h)
theorem W.quit {i : Nat} {p : Pos Lam} {g : Goroutine} {w : World} {n : Nat} (hq : p.quit = true) (h : QuitsD P n 1 g) : J.W i p g w := .inl (C.fold ⟨(fun e => by rw [hq] at e; cases e), (fun _ => ⟨n, h⟩)⟩)
/-- where the job's 'sit' says -/
theorem W.sit {i : Nat} {p : Pos Lam} {g : Goroutine} {w : World} (h : ∀ w', J.rely i w w' → J.sit i p g w') : J.W i p g w := .inr (.here h)
/-- a step that turns nothing -/
theorem W.of_goes {i : Nat} {p : Pos Lam} {g g' : Goroutine} {w : World} (hs : g.status = .running) (h : J.Same i p g g' w) (hq : p.quit = false) (hW : J.W i p g' w) : J.W i p g w := hW.imp (fun h' => C.of_goes hs h hq h') (fun h' => .step hs h hq h')
/-- a step that turns the world -/
theorem C.of_turn {i : Nat} {p : Pos Lam} {g g' : Goroutine} {w : World} (f : World → World) (hs : g.status = .running) (h : ∀ w₁, J.rely i w w₁ → (stepG P (i == 0) g w₁).goes fun g1 w1 es => g1 = g' ∧ w1 = f w₁ ∧ J.step i p w₁ w1 es) (hf : ∀ w₁, J.rely i w w₁ → J.rely i (f w) (f w₁))
    (hq : p.quit = false) (hW : J.C i p g' (f w)) : J.C i p g w := by
  obtain ⟨n, hn⟩ := (C.unf hW).1 hq
  refine C.fold ⟨fun _ => ⟨n + 1, Goes.step hs fun w₁ h₁ => ?_⟩, fun e => by rw [hq] at e; cases e⟩
  have := h w₁ h₁
  cases hst : stepG P (i == 0) g w₁ with
  | go g1 w1 es =>
    rw [hst] at this
    obtain ⟨rfl, rfl, hd⟩ := this
    exact ⟨hd, hn.rely (fun a b c => rely_trans (J := J) (i := i) (a := a) (b := b) (c := c)) (hf w₁ h₁)⟩
  | _ => rw [hst] at this; exact this.elim
theorem W.idle {i : Nat} {p : Pos Lam} {g g' : Goroutine} {w : World} (hs : g.status = .running) (h : ∀ w₁, stepG P (i == 0) g w₁ = .go g' w₁ #[]) (hq : p.quit = false) (hW : J.W i p g' w) : J.W i p g w :=
  W.of_goes hs (fun w₁ _ => by rw [h w₁]; exact ⟨rfl, rfl, J.idle i p w₁⟩) hq hW

variable {i : Nat} {p : Pos Lam} {b : Frame} {a : Act} {k : List Item} {cs : List Frame} {w : World}
theorem W.skip (hq : p.quit = false) (h : J.W i p (G (b.at a k) cs) w) : J.W i p (G (b.at a (.code .skip :: k)) cs) w := W.idle rfl (fun _ => stepG_skip) hq h
theorem W.inBlock {id : Nat} (hq : p.quit = false) (h : J.W i p (G (b.at a k) cs) w) : J.W i p (G (b.at a (.inBlock id :: k)) cs) w := W.idle rfl (fun _ => stepG_inBlock) hq h
theorem W.seq {x y : Code} (hq : p.quit = false) (h : J.W i p (G (b.at a (.code x :: .code y :: k)) cs) w) : J.W i p (G (b.at a (.code (.seq x y) :: k)) cs) w := W.idle rfl (fun _ => stepG_seq) hq h
theorem W.cond {c : Operand} {x y : Code} {t : Bool} (hq : p.quit = false) (hc : a.eval c = .bool t) (h : J.W i p (G (b.at a (.code (if t then x else y) :: k)) cs) w) : J.W i p (G (b.at a (.code (.cond c x y) :: k)) cs) w := W.idle rfl (fun _ => stepG_cond hc) hq h
theorem W.block {id : Nat} {c : Code} (hq : p.quit = false) (h : J.W i p (G (b.at a (.code c :: .inBlock id :: k)) cs) w) : J.W i p (G (b.at a (.code (.block id c) :: k)) cs) w := W.idle rfl (fun _ => stepG_block) hq h
theorem W.loop {c : Code} (hq : p.quit = false) (h : J.W i p (G (b.at a (.code c :: .inLoop c :: k)) cs) w) : J.W i p (G (b.at a (.code (.loop c) :: k)) cs) w := W.idle rfl (fun _ => stepG_loop) hq h
theorem W.inLoop {c : Code} (hq : p.quit = false) (h : J.W i p (G (b.at a (.code c :: .inLoop c :: k)) cs) w) : J.W i p (G (b.at a (.inLoop c :: k)) cs) w := W.idle rfl (fun _ => stepG_inLoop) hq h
theorem W.exit {id : Nat} {k' : List Item} (hq : p.quit = false) (he : exitTo id k = some k') (h : J.W i p (G (b.at a k') cs) w) : J.W i p (G (b.at a (.code (.exit id) :: k)) cs) w := W.idle rfl (fun _ => stepG_exit he) hq h
theorem W.region {id : Nat} {ops : Array Oper} (hq : p.quit = false) (h : J.W i p (G (b.at a (.inRegion ops (List.range ops.size) :: k)) cs) w) : J.W i p (G (b.at a (.code (.region id ops false) :: k)) cs) w := W.idle rfl (fun _ => stepG_region) hq h
theorem W.regionEnd {ops : Array Oper} (hq : p.quit = false) (h : J.W i p (G (b.at a k) cs) w) : J.W i p (G (b.at a (.inRegion ops [] :: k)) cs) w := W.idle rfl (fun _ => stepG_region_end) hq h
theorem W.ret (hq : p.quit = false) (h : J.W i p (G { b.at a (.code .ret :: k) with mode := .returning } cs) w) : J.W i p (G (b.at a (.code .ret :: k)) cs) w := W.idle rfl (fun _ => stepG_ret') hq h
theorem W.fin (hq : p.quit = false) (h : J.W i p (G { b.at a [] with mode := .returning } cs) w) : J.W i p (G (b.at a []) cs) w := W.idle rfl (fun _ => stepG_end) hq h
/-- an operation that yields v and lists nothing -/
theorem W.op {ops : Array Oper} {n : Nat} {rest : List Nat} {o : Oper} {v : Value} (hq : p.quit = false) (ho : ops[n]? = some o) (hw : Region.wanted o (yielded ops a.tmps) = true) (hk : b.kind ≠ .early)
    (hr : ∀ w₁, J.rely i w w₁ → (execOp a.eval o).run P w₁ = .ok (.value v) w₁) (he : ∀ w₁, J.rely i w w₁ → J.step i p w₁ w₁ (listed P b.fn a o w₁)) (h : J.W i p (G (b.at (a.put o.dst v) (.inRegion ops rest :: k)) cs) w) : J.W i p (G (b.at a (.inRegion ops (n :: rest) :: k)) cs) w :=
  W.of_goes rfl (fun w₁ h₁ => by rw [stepG_value ho hw hk (hr w₁ h₁)]; exact ⟨rfl, rfl, he w₁ h₁⟩) hq h
theorem W.pure {ops : Array Oper} {n : Nat} {rest : List Nat} {o : Oper} {v : Value} (hq : p.quit = false) (ho : ops[n]? = some o) (hw : Region.wanted o (yielded ops a.tmps) = true) (hk : b.kind ≠ .early)
    (hr : ∀ w₁, (execOp a.eval o).run P w₁ = .ok (.value v) w₁) (he : ∀ w₁, (execOp a.eval o).events P w₁ #[] = #[]) (h : J.W i p (G (b.at (a.put o.dst v) (.inRegion ops rest :: k)) cs) w) : J.W i p (G (b.at a (.inRegion ops (n :: rest) :: k)) cs) w :=
  W.op hq ho hw hk (fun w₁ _ => hr w₁) (fun w₁ _ => J.quiet i p w₁ (listed_nil (he w₁))) h
theorem W.unwanted {ops : Array Oper} {n : Nat} {rest : List Nat} {o : Oper} (hq : p.quit = false) (ho : ops[n]? = some o) (hw : Region.wanted o (yielded ops a.tmps) = false) (h : J.W i p (G (b.at (a.put o.dst undef) (.inRegion ops rest :: k)) cs) w) : J.W i p (G (b.at a (.inRegion ops (n :: rest) :: k)) cs) w :=
  W.idle rfl (fun _ => stepG_unwanted ho hw) hq h
theorem C.idle {i : Nat} {p : Pos Lam} {g g' : Goroutine} {w : World} (hs : g.status = .running) (h : ∀ w₁, stepG P (i == 0) g w₁ = .go g' w₁ #[]) (hq : p.quit = false) (hW : J.C i p g' w) : J.C i p g w :=
  C.of_goes hs (fun w₁ _ => by rw [h w₁]; exact ⟨rfl, rfl, J.idle i p w₁⟩) hq hW

theorem C.skip (hq : p.quit = false) (h : J.C i p (G (b.at a k) cs) w) : J.C i p (G (b.at a (.code .skip :: k)) cs) w := C.idle rfl (fun _ => stepG_skip) hq h
theorem C.inBlock {id : Nat} (hq : p.quit = false) (h : J.C i p (G (b.at a k) cs) w) : J.C i p (G (b.at a (.inBlock id :: k)) cs) w := C.idle rfl (fun _ => stepG_inBlock) hq h
theorem C.seq {x y : Code} (hq : p.quit = false) (h : J.C i p (G (b.at a (.code x :: .code y :: k)) cs) w) : J.C i p (G (b.at a (.code (.seq x y) :: k)) cs) w := C.idle rfl (fun _ => stepG_seq) hq h
theorem C.cond {c : Operand} {x y : Code} {t : Bool} (hq : p.quit = false) (hc : a.eval c = .bool t) (h : J.C i p (G (b.at a (.code (if t then x else y) :: k)) cs) w) : J.C i p (G (b.at a (.code (.cond c x y) :: k)) cs) w := C.idle rfl (fun _ => stepG_cond hc) hq h
theorem C.block {id : Nat} {c : Code} (hq : p.quit = false) (h : J.C i p (G (b.at a (.code c :: .inBlock id :: k)) cs) w) : J.C i p (G (b.at a (.code (.block id c) :: k)) cs) w := C.idle rfl (fun _ => stepG_block) hq h
theorem C.loop {c : Code} (hq : p.quit = false) (h : J.C i p (G (b.at a (.code c :: .inLoop c :: k)) cs) w) : J.C i p (G (b.at a (.code (.loop c) :: k)) cs) w := C.idle rfl (fun _ => stepG_loop) hq h
theorem C.inLoop {c : Code} (hq : p.quit = false) (h : J.C i p (G (b.at a (.code c :: .inLoop c :: k)) cs) w) : J.C i p (G (b.at a (.inLoop c :: k)) cs) w := C.idle rfl (fun _ => stepG_inLoop) hq h
theorem C.exit {id : Nat} {k' : List Item} (hq : p.quit = false) (he : exitTo id k = some k') (h : J.C i p (G (b.at a k') cs) w) : J.C i p (G (b.at a (.code (.exit id) :: k)) cs) w := C.idle rfl (fun _ => stepG_exit he) hq h
theorem C.region {id : Nat} {ops : Array Oper} (hq : p.quit = false) (h : J.C i p (G (b.at a (.inRegion ops (List.range ops.size) :: k)) cs) w) : J.C i p (G (b.at a (.code (.region id ops false) :: k)) cs) w := C.idle rfl (fun _ => stepG_region) hq h
theorem C.regionEnd {ops : Array Oper} (hq : p.quit = false) (h : J.C i p (G (b.at a k) cs) w) : J.C i p (G (b.at a (.inRegion ops [] :: k)) cs) w := C.idle rfl (fun _ => stepG_region_end) hq h
theorem C.ret (hq : p.quit = false) (h : J.C i p (G { b.at a (.code .ret :: k) with mode := .returning } cs) w) : J.C i p (G (b.at a (.code .ret :: k)) cs) w := C.idle rfl (fun _ => stepG_ret') hq h
theorem C.fin (hq : p.quit = false) (h : J.C i p (G { b.at a [] with mode := .returning } cs) w) : J.C i p (G (b.at a []) cs) w := C.idle rfl (fun _ => stepG_end) hq h
theorem C.op {ops : Array Oper} {n : Nat} {rest : List Nat} {o : Oper} {v : Value} (hq : p.quit = false) (ho : ops[n]? = some o) (hw : Region.wanted o (yielded ops a.tmps) = true) (hk : b.kind ≠ .early)
    (hr : ∀ w₁, J.rely i w w₁ → (execOp a.eval o).run P w₁ = .ok (.value v) w₁) (he : ∀ w₁, J.rely i w w₁ → J.step i p w₁ w₁ (listed P b.fn a o w₁)) (h : J.C i p (G (b.at (a.put o.dst v) (.inRegion ops rest :: k)) cs) w) : J.C i p (G (b.at a (.inRegion ops (n :: rest) :: k)) cs) w :=
  C.of_goes rfl (fun w₁ h₁ => by rw [stepG_value ho hw hk (hr w₁ h₁)]; exact ⟨rfl, rfl, he w₁ h₁⟩) hq h
theorem C.pure {ops : Array Oper} {n : Nat} {rest : List Nat} {o : Oper} {v : Value} (hq : p.quit = false) (ho : ops[n]? = some o) (hw : Region.wanted o (yielded ops a.tmps) = true) (hk : b.kind ≠ .early)
    (hr : ∀ w₁, (execOp a.eval o).run P w₁ = .ok (.value v) w₁) (he : ∀ w₁, (execOp a.eval o).events P w₁ #[] = #[]) (h : J.C i p (G (b.at (a.put o.dst v) (.inRegion ops rest :: k)) cs) w) : J.C i p (G (b.at a (.inRegion ops (n :: rest) :: k)) cs) w :=
  C.op hq ho hw hk (fun w₁ _ => hr w₁) (fun w₁ _ => J.quiet i p w₁ (listed_nil (he w₁))) h
theorem C.unwanted {ops : Array Oper} {n : Nat} {rest : List Nat} {o : Oper} (hq : p.quit = false) (ho : ops[n]? = some o) (hw : Region.wanted o (yielded ops a.tmps) = false) (h : J.C i p (G (b.at (a.put o.dst undef) (.inRegion ops rest :: k)) cs) w) : J.C i p (G (b.at a (.inRegion ops (n :: rest) :: k)) cs) w :=
  C.idle rfl (fun _ => stepG_unwanted ho hw) hq h
/-- the closed job -/
theorem C.of_lead (hA : ∀ i p g w, J.sit i p g w → J.C i p g w) {g : Goroutine} {w : World} (h : J.Lead i p g w) : J.C i p g w := by
  induction h with
  | here h => exact hA _ _ _ _ (h _ (rely_refl _))
  | step h1 h2 h3 _ ih => exact C.of_goes h1 h2 h3 ih
theorem closed_sit (hA : ∀ i p g w, J.sit i p g w → J.C i p g w) : (∀ i p g w, (J.put J.C).sit i p g w → p.quit = false → ∃ n, Goes P (i == 0) ((J.put J.C).rely i) ((J.put J.C).step i p) (Stop (J.put J.C).team i p) n g w) ∧ (∀ i p g w, (J.put J.C).sit i p g w → p.quit = true → ∃ n, QuitsD P n 1 g) :=
  ⟨fun i p g w h hq => (unf_mono (fun _ _ _ _ hv => hv.elim id (C.of_lead hA)) (C.unf (J := J) h)).1 hq, fun i p g w h hq => (C.unf (J := J) h).2 hq⟩
theorem C.of_W (hA : ∀ i p g w, J.sit i p g w → J.C i p g w) {g : Goroutine} {w : World} (h : J.W i p g w) : J.C i p g w := h.elim id (C.of_lead hA)
end
end Go.Proofs.Ytboiolnnhmlieaa.Gang
