
/-
  Goroutine 0 beside leavers, to the end of the run: 'Run' says that from here on all goes well, on whatever tape; the rules of its walk.
  Conditions: stated lemma by lemma.
-/
import Derived.Test.YtboiolnnhmlieaaGa11
namespace Go.Proofs.Ytboiolnnhmlieaa.Gang
open Go.Conc Go.ConcN
open Go.ConcR (wgBlock WgAt stA smA rd wr KK)
set_option linter.unusedVariables false
set_option linter.unusedSimpArgs false

/-- the run comes to its end, and all is well -/
def Ends (P : Program) (Post : Value → World → Prop) (gs : Array Goroutine) (w : World) (sl : Option (Nat × Nat)) (t : Trace) : Prop :=
  ∃ N last o w' t', runNT P (N + 1) (crowd gs w sl) t = (.ended o w', t') ∧ runN P N (crowd gs w sl) = .next last ∧ Go.step P last = .ended o w' ∧ Good P Post last o w' t'
theorem Ends.of_run {P : Program} {Post : Value → World → Prop} {gs gs' : Array Goroutine} {w w' : World} {sl sl' : Option (Nat × Nat)} {t t' : Trace} {N : Nat} (h : runNT P N (crowd gs w sl) t = (.next (crowd gs' w' sl'), t')) (he : Ends P Post gs' w' sl' t') : Ends P Post gs w sl t := by
  obtain ⟨M, last, o, w2, t2, h1, h2, h3, h4⟩ := he
  refine ⟨N + M, last, o, w2, t2, ?_, ?_, h3, h4⟩
  · rw [Nat.add_assoc, runNT_add, h]; exact h1
  · rw [runN_add, ← runNT_fst P _ _ t, h]; exact h2
/-- a program's end: what is to hold at the return -/
structure Cx where
  Post : Value → World → Prop
  Sh : Loc → Prop
  B : Nat
  c : Nat
  d : Nat := 0
/-- what is held of the trace, goroutine 0 being so deaf -/
structure CalmD (Sh : Loc → Prop) (B c d : Nat) (t : Trace) : Prop where
  clean : ∀ said, ¬ Race said t
  known : ∀ i a, touchAt t i = some a → a.loc.isMemory = true → Knows t 0 i ∨ (Sh a.loc ∧ a.kind = .atomic)
  over : t.HandedOver
  hears : Deaf t 0 = d
  seen : ∀ op ∈ t, op.act.low B
  quiet : Quiet Sh t
  gs : ∀ (i : Nat) (op : MemOp), t[i]? = some op → op.g ≤ c
  mem : ∀ l : Loc, l.isMemory = false → Sh l
structure AloneD (P : Program) (X : Cx) (gs : Array Goroutine) (a : Goroutine) (t : Trace) : Prop where
  size : gs.size = X.c + 1
  main : gs[0]? = some a
  lv : ∃ q, Leavers P t gs q
  calm : CalmD X.Sh X.B X.c X.d t
theorem CalmD.plain {Sh : Loc → Prop} {B c : Nat} {t : Trace} (h : CalmD Sh B c 0 t) : Calm Sh B c t := ⟨⟨h.clean, h.known, h.over, h.hears, h.seen⟩, h.quiet, h.gs, h.mem⟩
theorem Calm.deaf {Sh : Loc → Prop} {B c : Nat} {t : Trace} (h : Calm Sh B c t) : CalmD Sh B c 0 t := ⟨h.past.clean, h.past.known, h.past.over, h.past.hears, h.past.seen, h.quiet, h.gs, h.mem⟩
/-- FROM HERE ON ALL GOES WELL -/
def Run (P : Program) (X : Cx) (g : Goroutine) (w : World) : Prop := ∀ w', AtRel w w' → ∀ gs sl t, AloneD P X gs g t → Ends P X.Post gs w' sl t

section
variable {P : Program} {X : Cx}
theorem Run.rely {g : Goroutine} {w w' : World} (h : Run P X g w) (hr : AtRel w w') : Run P X g w' := fun w2 h2 => h w2 (atRel_trans _ _ _ hr h2)
theorem Run.raise {B' : Nat} {g : Goroutine} {w : World} (hB : X.B ≤ B') (h : Run P { X with B := B' } g w) : Run P X g w := fun w' hw gs sl t hA => h w' hw gs sl t ⟨hA.size, hA.main, hA.lv, ⟨hA.calm.clean, hA.calm.known, hA.calm.over, hA.calm.hears, fun op hop => MemAct.low_mono hB (hA.calm.seen op hop), hA.calm.quiet, hA.calm.gs, hA.calm.mem⟩⟩

/-- what a step of goroutine 0 may list -/
def EvB (Shun : Loc → Prop) (B : Nat) (e : Event) : Prop := (∀ x, (MemAct.ofEvent e).touch? = some x → Shun x.loc → x.kind ≠ .plain) ∧ (MemAct.ofEvent e).low B
theorem CalmD.own {Sh : Loc → Prop} {B c d : Nat} {t : Trace} (h : CalmD Sh B c d t) {fn : FuncId} {pos : String} {es : Array Event} (hes : ∀ e ∈ es, EvB Sh B e) : CalmD Sh B c (deafBehind d es) (t ++ MemOp.ofEvents 0 fn pos es) := by
  have hu : ∀ op ∈ MemOp.ofEvents 0 fn pos es, op.g = 0 := ev_g
  have hs : ∀ op ∈ MemOp.ofEvents 0 fn pos es, ∀ b, op.act.touch? = some b → Sh b.loc → b.kind ≠ .plain := fun op hop b hb => by obtain ⟨e, he, rfl⟩ := ev_mem hop; exact (hes e he).1 b hb
  refine ⟨fun said => noRace_append (h.clean said) hu fun i a ha op hop b hb hc => ?_, fun i a ha hm => ?_, handedOver_app h.over fun op hop => .inl (hu op hop), by rw [Deaf_own, h.hears], seen_app h.seen (fun op hop => by obtain ⟨e, he, rfl⟩ := ev_mem hop; exact (hes e he).2), h.quiet.app fun op hop x hx hs' => ⟨hs op hop x hx hs', fun _ => hu op hop⟩, fun i op hi => ?_, h.mem⟩
  · rcases h.known i a ha hc.2.1 with hk | ⟨hsa, hka⟩
    · exact hk
    · have hkb := hs op hop b hb (hc.1 ▸ hsa)
      obtain ⟨_, _, _, hcase⟩ := hc
      rw [hka] at hcase
      rcases hcase with x | x | ⟨_, x, _⟩
      · cases x
      · exact absurd x hkb
      · cases x
  · obtain ⟨x, hx, hxa⟩ := touch_of ha
    rcases getElem?_append_cases hx with ⟨_, hx'⟩ | ⟨_, hxu⟩
    · exact (h.known i a (by rw [touchAt_of hx']; exact hxa) hm).imp (·.app _) id
    · have := knows_own hx
      rw [hu x hxu] at this
      exact .inl this
  · rcases getElem?_append_cases hi with ⟨_, hi'⟩ | ⟨_, hiu⟩
    · exact h.gs i op hi'
    · rw [hu op hiu]; exact Nat.zero_le _
theorem CalmD.mute {Sh : Loc → Prop} {B c d : Nat} {t : Trace} (h : CalmD Sh B c d t) {g : Nat} (hg : g ≠ 0) (hgc : g ≤ c) {fn : FuncId} {pos : String} {es : Array Event} (hm : ∀ e ∈ es, e.mute = true) : CalmD Sh B c d (t ++ MemOp.ofEvents g fn pos es) := by
  have hn : ∀ op ∈ MemOp.ofEvents g fn pos es, op.act.touch? = none := fun op hop => by obtain ⟨e, he, rfl⟩ := ev_mem hop; exact touch_mute (hm e he)
  refine ⟨fun said => noRace_append (h.clean said) ev_g fun i a _ op hop b hb _ => (by rw [hn op hop] at hb; cases hb), fun i a ha hm => ?_, handedOver_app h.over fun op hop => .inr (hn op hop), (Deaf_other t hg _ ev_g).trans h.hears, seen_app h.seen (fun op hop => by obtain ⟨e, he, rfl⟩ := ev_mem hop; exact low_mute (hm e he) B), h.quiet.app fun op hop x hx hs => (by rw [hn op hop] at hx; cases hx), fun i op hi => ?_, h.mem⟩
  · obtain ⟨x, hx, hxa⟩ := touch_of ha
    rcases getElem?_append_cases hx with ⟨_, hx'⟩ | ⟨_, hxu⟩
    · exact (h.known i a (by rw [touchAt_of hx']; exact hxa) hm).imp (·.app _) id
    · rw [hn x hxu] at hxa; cases hxa
  · rcases getElem?_append_cases hi with ⟨_, hi'⟩ | ⟨_, hiu⟩
    · exact h.gs i op hi'
    · obtain ⟨e, _, rfl⟩ := ev_mem hiu
      exact hgc

/-- ONE STEP -/
theorem Run.stepD {g : Goroutine} {w : World} (hs : g.status = .running) (h : ∀ w₁, AtRel w w₁ → ∃ g' w' es, stepG P true g w₁ = .go g' w' es ∧ (∀ e ∈ es, EvB X.Sh X.B e) ∧ Run P { X with d := deafBehind X.d es } g' w') : Run P X g w := by
  have key : ∀ (M : Nat) (w' : World), AtRel w w' → ∀ gs sl t q, sumTo gs.size q ≤ M → gs.size = X.c + 1 → gs[0]? = some g → Leavers P t gs q → CalmD X.Sh X.B X.c X.d t → Ends P X.Post gs w' sl t := by
    intro M
    induction M with
    | zero =>
      intro w' hw gs sl t q hM hsz h0 hL hC
      refine ?_
      have haw : ∀ x ∈ gs, awake x := by
        intro x hx
        obtain ⟨i, hi, rfl⟩ := Array.mem_iff_getElem.1 hx
        rcases Nat.eq_zero_or_pos i with rfl | hpos
        · have : gs[0] = g := by simpa [Array.getElem?_eq_getElem hi] using h0
          rw [this]; exact awake_of (.inl hs)
        · exact awake_of ((hL.old i _ hpos (Array.getElem?_eq_getElem hi)).status.elim .inl fun x => .inr (.inr x))
      obtain ⟨i, x, d, sl', hi, hx, hst⟩ := crowd_pick (P := P) (w := w') (sl := sl) haw ⟨0, g, h0, hs⟩
      have hi0 : i = 0 := by
        rcases Nat.eq_zero_or_pos i with h' | hpos
        · exact h'
        · have hq := hL.old i x hpos hi
          have hlt : i < gs.size := (Array.getElem?_eq_some_iff.1 hi).1
          have := le_sumTo (f := q) hlt
          rw [show q i = 0 by omega] at hq
          rw [hq.1] at hx; cases hx
      subst hi0
      obtain rfl : x = g := by rw [h0] at hi; exact (Option.some.inj hi).symm
      obtain ⟨g', w2, es, hgo, hev, hR⟩ := h (w'.at d) (atRel_trans _ _ _ hw ⟨d, rfl⟩)
      have hrunT := runT_crowd_go (P := P) (sl := sl') (i := 0) hi (show stepG P (0 == 0) x (w'.at d) = _ from hgo)
      have hlt : 0 < gs.size := by omega
      refine Ends.of_run (N := 1) (gs' := (gs.map (woken P x g' w2)).setIfInBounds 0 g') (w' := w2) (sl' := sl') (by simp only [runNT, hst, hrunT]) (hR w2 (atRel_refl _) _ _ _ ⟨by simp [hsz], by simp [hlt], ⟨q, fun j y hj hy => ?_, fun j hj => ?_⟩, hC.own (fn := x.frame.fn) (pos := x.frame.place) hev⟩)
      · have hne : 0 ≠ j := by omega
        rw [Array.getElem?_setIfInBounds_ne hne, Array.getElem?_map] at hy
        obtain ⟨z, hz, rfl⟩ := Option.map_eq_some_iff.1 hy
        have hq := hL.old j z hj hz
        rw [woken_quitsD hq, Deaf_other t (by omega) _ (fun op hop => by obtain ⟨e, _, rfl⟩ := ev_mem hop; rfl)]
        exact hq
      · rw [Deaf_other t (g' := 0) (by simp at hj; omega) _ (fun op hop => by obtain ⟨e, _, rfl⟩ := ev_mem hop; rfl)]
        exact hL.above j (by simpa using hj)
    | succ M ih =>
      intro w' hw gs sl t q hM hsz h0 hL hC
      have haw : ∀ x ∈ gs, awake x := by
        intro x hx
        obtain ⟨i, hi, rfl⟩ := Array.mem_iff_getElem.1 hx
        rcases Nat.eq_zero_or_pos i with rfl | hpos
        · have : gs[0] = g := by simpa [Array.getElem?_eq_getElem hi] using h0
          rw [this]; exact awake_of (.inl hs)
        · exact awake_of ((hL.old i _ hpos (Array.getElem?_eq_getElem hi)).status.elim .inl fun x => .inr (.inr x))
      obtain ⟨i, x, d, sl', hi, hx, hst⟩ := crowd_pick (P := P) (w := w') (sl := sl) haw ⟨0, g, h0, hs⟩
      rcases Nat.eq_zero_or_pos i with rfl | hpos
      · obtain rfl : x = g := by rw [h0] at hi; exact (Option.some.inj hi).symm
        obtain ⟨g', w2, es, hgo, hev, hR⟩ := h (w'.at d) (atRel_trans _ _ _ hw ⟨d, rfl⟩)
        have hrunT := runT_crowd_go (P := P) (sl := sl') (i := 0) hi (show stepG P (0 == 0) x (w'.at d) = _ from hgo)
        have hlt : 0 < gs.size := by omega
        refine Ends.of_run (N := 1) (gs' := (gs.map (woken P x g' w2)).setIfInBounds 0 g') (w' := w2) (sl' := sl') (by simp only [runNT, hst, hrunT]) (hR w2 (atRel_refl _) _ _ _ ⟨by simp [hsz], by simp [hlt], ⟨q, fun j y hj hy => ?_, fun j hj => ?_⟩, hC.own (fn := x.frame.fn) (pos := x.frame.place) hev⟩)
        · have hne : 0 ≠ j := by omega
          rw [Array.getElem?_setIfInBounds_ne hne, Array.getElem?_map] at hy
          obtain ⟨z, hz, rfl⟩ := Option.map_eq_some_iff.1 hy
          have hq := hL.old j z hj hz
          rw [woken_quitsD hq, Deaf_other t (by omega) _ (fun op hop => by obtain ⟨e, _, rfl⟩ := ev_mem hop; rfl)]
          exact hq
        · rw [Deaf_other t (g' := 0) (by simp at hj; omega) _ (fun op hop => by obtain ⟨e, _, rfl⟩ := ev_mem hop; rfl)]
          exact hL.above j (by simpa using hj)
      · have hq := hL.old i x hpos hi
        have hi0 : (i == 0) = false := by simp; omega
        have hlt : i < gs.size := (Array.getElem?_eq_some_iff.1 hi).1
        cases hqi : q i with
        | zero => rw [hqi] at hq; rw [hq.1] at hx; cases hx
        | succ k =>
          rw [hqi] at hq
          rcases hq with ⟨hf, _⟩ | ⟨_, g', es, hm, hstp, hq'⟩
          · rw [hf] at hx; cases hx
          have hrunT := runT_crowd_go (P := P) (sl := sl') (i := i) hi (by rw [hi0]; exact hstp (w'.at d))
          have hsum : sumTo gs.size (upd q i k) + (k + 1) = sumTo gs.size q + k := by
            have := sumTo_upd q k id hlt
            simpa [hqi] using this
          refine Ends.of_run (N := 1) (gs' := (gs.map (woken P x g' (w'.at d))).setIfInBounds i g') (w' := w'.at d) (sl' := sl') (by simp only [runNT, hst, hrunT]) (ih (w'.at d) (atRel_trans _ _ _ hw ⟨d, rfl⟩) _ _ _ (upd q i k) (by simp; omega) (by simp [hsz]) ?_ ⟨fun j y hj hy => ?_, fun j hj => ?_⟩ (hC.mute (g := i) (fn := x.frame.fn) (pos := x.frame.place) (by omega) (by omega) hm))
          · have hne : i ≠ 0 := by omega
            rw [Array.getElem?_setIfInBounds_ne hne, Array.getElem?_map, h0]
            simp [woken_run hs]
          · by_cases hji : i = j
            · subst hji
              rw [Array.getElem?_setIfInBounds_self_of_lt (by simpa using hlt)] at hy
              obtain rfl := Option.some.inj hy
              rw [upd_same, Deaf_own]
              exact hq'
            · rw [Array.getElem?_setIfInBounds_ne hji, Array.getElem?_map] at hy
              obtain ⟨z, hz, rfl⟩ := Option.map_eq_some_iff.1 hy
              have hqj := hL.old j z hj hz
              rw [woken_quitsD hqj, upd_ne q k (Ne.symm hji), Deaf_other t hji _ (fun op hop => by obtain ⟨e, _, rfl⟩ := ev_mem hop; rfl)]
              exact hqj
          · rw [Deaf_other t (g' := i) (by simp at hj; omega) _ (fun op hop => by obtain ⟨e, _, rfl⟩ := ev_mem hop; rfl)]
            exact hL.above j (by simpa using hj)
  intro w' hw gs sl t hA
  obtain ⟨q, hq⟩ := hA.lv
  exact key _ w' hw gs sl t q (Nat.le_refl _) hA.size hA.main hq hA.calm

theorem Run.step {g : Goroutine} {w : World} (hs : g.status = .running) (h : ∀ w₁, AtRel w w₁ → ∃ g' w' es, stepG P true g w₁ = .go g' w' es ∧ (∀ e ∈ es, EvL X.Sh X.B e) ∧ Run P X g' w') : Run P X g w :=
  Run.stepD hs fun w₁ h₁ => by
    obtain ⟨g', w', es, k1, k2, k3⟩ := h w₁ h₁
    refine ⟨g', w', es, k1, fun e he => ⟨(k2 e he).1, (k2 e he).2.2.2⟩, ?_⟩
    rw [deafBehind_still (fun e he => ⟨(k2 e he).2.1, (k2 e he).2.2.1⟩)]
    exact k3
/-- the return of goroutine 0 -/
theorem Run.done {g : Goroutine} {w : World} {v : Value} (hd : X.d = 0) (hs : g.status = .running) (h : ∀ w₁, AtRel w w₁ → ∃ es, stepG P true g w₁ = .ended (.done v) w₁ es ∧ (∀ e ∈ es, EvL X.Sh X.B e) ∧ X.Post v w₁) : Run P X g w := by
  intro w' hw gs sl t hA
  obtain ⟨q, hq⟩ := hA.lv
  have hC := hA.calm
  rw [hd] at hC
  exact beside_ends (P := P) (Shun := X.Sh) (B := X.B) (D := fun _ _ es => ∀ e ∈ es, EvL X.Sh X.B e) (Post := X.Post) (fun _ _ _ h => h) (n := 0) (q := q) hA.main hq hC.plain.past (fun w₁ h₁ => ⟨hs, v, by
    obtain ⟨es, h1, h2, h3⟩ := h w₁ (atRel_trans _ _ _ hw h₁)
    exact ⟨es, h1, h2, h3⟩⟩)

/-- A PHASE -/
theorem Run.phase {Y Lam : Type} {J : Job P Y Lam} (F : J.Fit) {g : Goroutine} {w : World} {x0 : Y} (hd : X.d = 0) (hc : J.c = X.c) (h1 : ∀ l, J.L.Sh l → X.Sh l ∨ ∃ a, l = .cell a ∧ X.B ≤ a.block) (h2 : ∀ l, X.Sh l → J.L.Sh l) (hW : X.B ≤ J.Wg) (hB : X.B ≤ J.Bd)
    (hsit : ∀ w', AtRel w w' → J.sit 0 (.kdS 0) g w') (hconc : J.conc ⟨0, 0, 0, x0⟩ w) (hJ : J.B.J x0 (J.B.cfg (fun _ => .kdS 0) 0))
    (hend : ∀ a' w' x', a'.status = .running → J.conc ⟨0, 0, 0, x'⟩ w' → J.B.J x' (fun _ => none) → J.last x' a' w' → Run P { X with Sh := J.L.Sh, B := J.Bd, c := X.c + J.B.n } a' w') : Run P X g w := by
  intro w' hw gs sl t hA
  obtain ⟨d, rfl⟩ := hw
  have hC := hA.calm
  rw [hd] at hC
  have hA' : Alone P X.Sh X.B X.c gs g t := ⟨hA.size, hA.main, hA.lv, hC.plain⟩
  obtain ⟨N, gs', a', w2, sl', t', x', k1, k2, k3, k4, k5, k6⟩ := Gang.phase (sl := sl) F (by rw [hc]; exact hA') h1 h2 hW hB (hsit _ ⟨d, rfl⟩) (F.rules.concAt _ _ d hconc) hJ
  rw [hc] at k2
  exact Ends.of_run k1 (hend a' w2 x' k3 k4 k5 k6 w2 (atRel_refl _) _ _ _ ⟨k2.size, k2.main, k2.lv, by rw [show ({ X with Sh := J.L.Sh, B := J.Bd, c := X.c + J.B.n } : Cx).d = 0 from hd]; exact k2.calm.deaf⟩)

/-! the rules of the walk -/
variable {b : Frame} {a : Act} {k : List Item} {cs : List Frame} {w : World}
theorem Run.idle {g g' : Goroutine} (hs : g.status = .running) (h : ∀ w₁, stepG P true g w₁ = .go g' w₁ #[]) (hW : Run P X g' w) : Run P X g w :=
  Run.step hs fun w₁ h₁ => ⟨g', w₁, #[], h w₁, fun e he => by simp at he, Run.rely hW h₁⟩
/-- a step that turns the world -/
theorem Run.turn (f : World → World) {g g' : Goroutine} (hs : g.status = .running) (hf : ∀ w₁, AtRel w w₁ → AtRel (f w) (f w₁)) (h : ∀ w₁, AtRel w w₁ → ∃ es, stepG P true g w₁ = .go g' (f w₁) es ∧ ∀ e ∈ es, EvL X.Sh X.B e) (hW : Run P X g' (f w)) : Run P X g w :=
  Run.step hs fun w₁ h₁ => by
    obtain ⟨es, h2, h3⟩ := h w₁ h₁
    exact ⟨g', f w₁, es, h2, h3, Run.rely hW (hf w₁ h₁)⟩
theorem Run.skip (h : Run P X (G (b.at a k) cs) w) : Run P X (G (b.at a (.code .skip :: k)) cs) w := Run.idle rfl (fun _ => stepG_skip) h
theorem Run.inBlock {id : Nat} (h : Run P X (G (b.at a k) cs) w) : Run P X (G (b.at a (.inBlock id :: k)) cs) w := Run.idle rfl (fun _ => stepG_inBlock) h
theorem Run.seq {x y : Code} (h : Run P X (G (b.at a (.code x :: .code y :: k)) cs) w) : Run P X (G (b.at a (.code (.seq x y) :: k)) cs) w := Run.idle rfl (fun _ => stepG_seq) h
theorem Run.cond {c : Operand} {x y : Code} {t : Bool} (hc : a.eval c = .bool t) (h : Run P X (G (b.at a (.code (if t then x else y) :: k)) cs) w) : Run P X (G (b.at a (.code (.cond c x y) :: k)) cs) w := Run.idle rfl (fun _ => stepG_cond hc) h
theorem Run.block {id : Nat} {c : Code} (h : Run P X (G (b.at a (.code c :: .inBlock id :: k)) cs) w) : Run P X (G (b.at a (.code (.block id c) :: k)) cs) w := Run.idle rfl (fun _ => stepG_block) h
theorem Run.loop {c : Code} (h : Run P X (G (b.at a (.code c :: .inLoop c :: k)) cs) w) : Run P X (G (b.at a (.code (.loop c) :: k)) cs) w := Run.idle rfl (fun _ => stepG_loop) h
theorem Run.inLoop {c : Code} (h : Run P X (G (b.at a (.code c :: .inLoop c :: k)) cs) w) : Run P X (G (b.at a (.inLoop c :: k)) cs) w := Run.idle rfl (fun _ => stepG_inLoop) h
theorem Run.exit {id : Nat} {k' : List Item} (he : exitTo id k = some k') (h : Run P X (G (b.at a k') cs) w) : Run P X (G (b.at a (.code (.exit id) :: k)) cs) w := Run.idle rfl (fun _ => stepG_exit he) h
theorem Run.region {id : Nat} {ops : Array Oper} (h : Run P X (G (b.at a (.inRegion ops (List.range ops.size) :: k)) cs) w) : Run P X (G (b.at a (.code (.region id ops false) :: k)) cs) w := Run.idle rfl (fun _ => stepG_region) h
theorem Run.regionEnd {ops : Array Oper} (h : Run P X (G (b.at a k) cs) w) : Run P X (G (b.at a (.inRegion ops [] :: k)) cs) w := Run.idle rfl (fun _ => stepG_region_end) h
theorem Run.ret (h : Run P X (G { b.at a (.code .ret :: k) with mode := .returning } cs) w) : Run P X (G (b.at a (.code .ret :: k)) cs) w := Run.idle rfl (fun _ => stepG_ret') h
theorem Run.fin (h : Run P X (G { b.at a [] with mode := .returning } cs) w) : Run P X (G (b.at a []) cs) w := Run.idle rfl (fun _ => stepG_end) h
theorem Run.unwanted {ops : Array Oper} {n : Nat} {rest : List Nat} {o : Oper} (ho : ops[n]? = some o) (hw : Region.wanted o (yielded ops a.tmps) = false) (h : Run P X (G (b.at (a.put o.dst undef) (.inRegion ops rest :: k)) cs) w) : Run P X (G (b.at a (.inRegion ops (n :: rest) :: k)) cs) w :=
  Run.idle rfl (fun _ => stepG_unwanted ho hw) h
end
end Go.Proofs.Ytboiolnnhmlieaa.Gang
