
/-
  A team's machine, on: every step keeps the invariant and lowers the measure, or the first member stands at its end; so the end is reached, on whatever tape.
  Conditions: stated lemma by lemma.
-/
import Derived.Test.YtboiolnnhmlieaaGa1
namespace Go.Proofs.Ytboiolnnhmlieaa.Gang
open Go.Conc Go.ConcN
set_option linter.unusedVariables false

section
variable {P : Program} {S Pos : Type} {T : Team P S Pos} {c : Nat}
theorem upd_self {α : Type} (f : Nat → α) (i : Nat) : upd f i (f i) = f := by
  funext k
  unfold upd
  split
  · next h => rw [h]
  · rfl

theorem Mem.inv {i : Nat} {p : Pos} {s : S} {d : Nat} {w : World} {n b : Nat} {g : Goroutine} (h : Mem T i p s d w n b g) :
    (T.quit p = false ∧ d = T.deaf p ∧ b = 1 ∧ Goes P (i == 0) (T.rely i) (T.step i p) (Stop T i p) n g w) ∨ (T.quit p = true ∧ i ≠ 0 ∧ b = 1 ∧ QuitsD P n d g) ∨ (g.status = .blocked ∧ b = 0 ∧ i = 0 ∧ T.next i p s = .block) := by
  cases h with
  | walk h1 h2 h3 => exact .inl ⟨h1, h2, rfl, h3⟩
  | gone h1 h2 h3 => exact .inr (.inl ⟨h1, h2, rfl, h3⟩)
  | blk _ h1 _ _ _ _ h2 => exact .inr (.inr ⟨rfl, rfl, h1, h2⟩)
/-- an elder leaver slips -/
theorem Inv.slip (R : Rules T) {s : S} {ps : Nat → Pos} {j : Nat} {f : Nat → Nat} {b : Nat} {q : Nat → Nat} {gs : Array Goroutine} {w : World} {t : Trace} (h : Inv T c s ps j f b q gs w t)
    {x : Nat} (h1 : 1 ≤ x) (h2 : x ≤ c) {g g' : Goroutine} {es : Array Event} {n' : Nat} (hg : gs[x]? = some g) (hq : QuitsD P n' (deafBehind (Deaf t x) es) g')
    (ht : T.tr ps j (t ++ MemOp.ofEvents x g.frame.fn g.frame.place es)) :
    ∃ b'', b'' ≤ 1 ∧ Inv T c s ps j f b'' (upd q x n') ((gs.map (woken P g g' w)).setIfInBounds x g') w (t ++ MemOp.ofEvents x g.frame.fn g.frame.place es) := by
  have hlt : x < gs.size := by rw [h.size]; omega
  have hnx : ∀ k, x ≠ ix c k := fun k => by unfold ix; split <;> omega
  have other : ∀ k, k ≤ j → ∃ gk bk, bk ≤ 1 ∧ (k ≠ 0 → bk = 1) ∧ ((gs.map (woken P g g' w)).setIfInBounds x g')[ix c k]? = some gk ∧ Mem T k (ps k) s (Deaf (t ++ MemOp.ofEvents x g.frame.fn g.frame.place es) (ix c k)) w (f k) bk gk := by
    intro k hk
    obtain ⟨gk, hgk, hmk⟩ := h.mem k hk
    obtain ⟨bk, k1, k2, k3⟩ := hmk.other R (x := g) (x' := g') (R.refl k w) (fun _ hn => .inl hn)
    refine ⟨woken P g g' w gk, bk, k1, fun hk0 => by rw [k2 hk0, if_neg hk0], ?_, ?_⟩
    · rw [Array.getElem?_setIfInBounds_ne (hnx k), Array.getElem?_map, hgk]; rfl
    · rw [Deaf_other t (hnx k) _ ev_g]; exact k3
  obtain ⟨g0, b0, m1, _, m2, m3⟩ := other 0 (Nat.zero_le _)
  refine ⟨b0, m1, ⟨by simp [h.size], fun k hk => ?_, fun y y1 y2 => ?_, fun k hk => ?_, h.conc, h.inv, ht⟩⟩
  · by_cases hk0 : k = 0
    · subst hk0; exact ⟨g0, m2, by rw [if_pos rfl]; exact m3⟩
    · obtain ⟨gk, bk, _, e1, e2, e3⟩ := other k hk
      exact ⟨gk, e2, by rw [if_neg hk0, ← e1 hk0]; exact e3⟩
  · by_cases hyx : y = x
    · subst hyx
      exact ⟨g', by rw [Array.getElem?_setIfInBounds_self_of_lt (by simpa using hlt)], by rw [upd_same, Deaf_own]; exact hq⟩
    · obtain ⟨gy, h3, h4⟩ := h.old y y1 y2
      refine ⟨gy, ?_, ?_⟩
      · rw [Array.getElem?_setIfInBounds_ne (Ne.symm hyx), Array.getElem?_map, h3]
        simp [woken_quitsD h4]
      · rw [upd_ne _ _ hyx, Deaf_other t (Ne.symm hyx) _ ev_g]; exact h4
  · rw [Deaf_other t (by omega : x ≠ k) _ ev_g]
    exact h.above k hk

/-- a child is started -/
theorem Inv.born (R : Rules T) {s s' : S} {ps : Nat → Pos} {j : Nat} {f : Nat → Nat} {b : Nat} {q : Nat → Nat} {gs : Array Goroutine} {w w' : World} {t : Trace} (h : Inv T c s ps j f b q gs w t)
    {g g' child : Goroutine} {p' pq : Pos} {n' m' : Nat} {u : Trace} (hg : gs[0]? = some g) (hr : ∀ k, k ≠ 0 → T.rely k w w')
    (hm : Mem T 0 p' s' (Deaf t 0) w' n' 1 g') (hch : Mem T (j + 1) pq s' 0 w' m' 1 child) (hc : T.conc s' w') (hI : T.inv s' (upd (upd ps 0 p') (j + 1) pq) (j + 1))
    (hu : ∀ k, Deaf (t ++ u) k = Deaf t k) (ht : T.tr (upd (upd ps 0 p') (j + 1) pq) (j + 1) (t ++ u)) :
    Inv T c s' (upd (upd ps 0 p') (j + 1) pq) (j + 1) (upd (upd f 0 n') (j + 1) m') 1 q ((gs.setIfInBounds 0 g').push child) w' (t ++ u) := by
  have hsz := h.size
  have hlt : 0 < gs.size := by omega
  refine ⟨by simp [hsz]; omega, fun k hk => ?_, fun x h1 h2 => ?_, fun k hk => by rw [hu]; exact h.above k (by omega), hc, hI, ht⟩
  · by_cases hkj : k = j + 1
    · subst hkj
      refine ⟨child, ?_, ?_⟩
      · rw [ix_pos (by omega), Array.getElem?_push, if_pos (by simp [hsz]; omega)]
      · rw [upd_same, upd_same, if_neg (by omega), hu, h.above _ (by rw [ix_pos (by omega)]; omega)]
        exact hch
    · have hkl : ix c k < gs.size := by rw [hsz]; exact ix_lt (by omega)
      by_cases hk0 : k = 0
      · subst hk0
        refine ⟨g', ?_, ?_⟩
        · rw [ix_zero, Array.getElem?_push, if_neg (by simp; omega), Array.getElem?_setIfInBounds_self_of_lt hlt]
        · rw [upd_ne _ _ hkj, upd_same, upd_ne _ _ hkj, upd_same, if_pos rfl, hu]
          exact hm
      · obtain ⟨gk, h1, h2⟩ := h.mem k (by omega)
        have hne : 0 ≠ ix c k := fun e => hk0 (ix_inj (c := c) (by rw [← e]; rfl))
        refine ⟨gk, ?_, ?_⟩
        · rw [Array.getElem?_push, if_neg (by simp; omega), Array.getElem?_setIfInBounds_ne hne]
          exact h1
        · rw [upd_ne _ _ hkj, upd_ne _ _ hk0, upd_ne _ _ hkj, upd_ne _ _ hk0, if_neg hk0, hu]
          rw [if_neg hk0] at h2
          rcases h2.inv with ⟨hq, hd, _, hG⟩ | ⟨hq, hi, _, hG⟩ | ⟨_, e, _⟩
          · exact .walk hq hd (hG.rely (R.trans k) (hr k hk0))
          · exact .gone hq hi hG
          · cases e
  · obtain ⟨gx, h3, h4⟩ := h.old x h1 h2
    have hxl : x < gs.size := by omega
    refine ⟨gx, ?_, by rw [hu]; exact h4⟩
    rw [Array.getElem?_push, if_neg (by simp; omega), Array.getElem?_setIfInBounds_ne (by omega)]
    exact h3

/-- the first member stands at its end -/
def Done (T : Team P S Pos) (s : S) (ps : Nat → Pos) (gs : Array Goroutine) (w : World) : Prop :=
  T.next 0 (ps 0) s = .fin ∧ ∃ a, gs[0]? = some a ∧ ∀ w₁, T.rely 0 w w₁ → Stop T 0 (ps 0) a w₁

theorem sum_lt {f : Nat → Nat} {i j n : Nat} (hi : i ≤ j) (hn : n + 1 = f i) : sumTo (j + 1) (upd f i n) + 1 = sumTo (j + 1) f := by
  have : sumTo (j + 1) (upd f i n) + f i = sumTo (j + 1) f + n := sumTo_upd f n id (i := i) (j := j + 1) (by omega)
  omega
theorem deaf_go (t : Trace) (k : Nat) (fn fn' : FuncId) (pos : String) (x : Nat) : Deaf (t ++ #[{ g := 0, fn, pos, act := .go x }, { g := x, fn := fn', pos, act := .start }]) k = Deaf t k := by
  rw [Deaf_append]
  simp [deafStep]

set_option maxHeartbeats 1000000 in
theorem step (R : Rules T) (X : Traced T c) {s : S} {ps : Nat → Pos} {j : Nat} {f : Nat → Nat} {b : Nat} {q : Nat → Nat} {gs : Array Goroutine} {w : World} {t : Trace} {sl : Option (Nat × Nat)} (h : Inv T c s ps j f b q gs w t) (hd : ¬ Done T s ps gs w) :
    ∃ s' ps' j' f' b' q' gs' w' sl' ops, stepT P (crowd gs w sl) = (.next (crowd gs' w' sl'), ops) ∧ Inv T c s' ps' j' f' b' q' gs' w' (t ++ ops) ∧ (T.meas s' ps' j' < T.meas s ps j ∨ (T.meas s' ps' j' = T.meas s ps j ∧ mu2 c j' f' b' q' < mu2 c j f b q)) := by
  -- whoever is there
  have all : ∀ x g, gs[x]? = some g → (∃ i, i ≤ j ∧ x = ix c i ∧ Mem T i (ps i) s (Deaf t (ix c i)) w (f i) (if i = 0 then b else 1) g) ∨ (1 ≤ x ∧ x ≤ c ∧ QuitsD P (q x) (Deaf t x) g) := by
    intro x g hx
    have hlt : x < gs.size := (Array.getElem?_eq_some_iff.1 hx).1
    rw [h.size] at hlt
    by_cases h1 : 1 ≤ x ∧ x ≤ c
    · obtain ⟨g', h2, h3⟩ := h.old x h1.1 h1.2
      rw [hx] at h2
      obtain rfl := Option.some.inj h2
      exact .inr ⟨h1.1, h1.2, h3⟩
    · obtain ⟨i, hi, rfl⟩ : ∃ i, i ≤ j ∧ x = ix c i := by
        rcases Nat.eq_zero_or_pos x with rfl | hp
        · exact ⟨0, Nat.zero_le _, rfl⟩
        · exact ⟨x - c, by omega, by rw [ix_pos (by omega)]; omega⟩
      obtain ⟨g', h2, h3⟩ := h.mem i hi
      rw [hx] at h2
      obtain rfl := Option.some.inj h2
      exact .inl ⟨i, hi, rfl, h3⟩
  have haw : ∀ g ∈ gs, awake g := by
    intro g hg
    obtain ⟨x, hx⟩ := Array.mem_iff_getElem?.1 hg
    rcases all x g hx with ⟨i, _, _, hm⟩ | ⟨_, _, hq⟩
    · rcases hm.status R with (h1 | h1) | h1
      · exact awake_of (.inl h1)
      · exact awake_of (.inr (.inr h1))
      · exact awake_of (.inr (.inl h1.1))
    · exact awake_of (hq.status.elim .inl fun x => .inr (.inr x))
  have hsome : ∃ (x : Nat) (g : Goroutine), gs[x]? = some g ∧ g.status = .running := by
    obtain ⟨g0, h0, hm⟩ := h.mem 0 (Nat.zero_le _)
    rcases hm.inv with ⟨_, _, _, hG⟩ | ⟨_, hi, _⟩ | ⟨_, _, _, hn⟩
    · exact ⟨_, _, h0, goes_running (R.refl 0) (fun _ _ h => h.1) hG⟩
    · exact absurd rfl hi
    · obtain ⟨i, hi1, hi2, hi3⟩ := R.live s ps j h.inv hn
      obtain ⟨gi, h1, h2⟩ := h.mem i hi2
      rw [if_neg (by omega)] at h2
      rcases h2.inv with ⟨_, _, _, hG⟩ | ⟨hq, _⟩ | ⟨_, e, _⟩
      · exact ⟨_, _, h1, goes_running (R.refl i) (fun _ _ h => h.1) hG⟩
      · rw [hi3] at hq; cases hq
      · cases e
  obtain ⟨x, g, d, sl', hx, hrun, hst⟩ := crowd_pick (P := P) (w := w) (sl := sl) haw hsome
  rw [hst]
  have h' := h.at R d
  rcases all x g hx with ⟨i, hi, rfl, hm0⟩ | ⟨x1, x2, hq⟩
  · have hm := hm0.at R d
    have hbeq := ix_beq c i
    rcases hm0.inv with ⟨hqu, hde, hb1, hG⟩ | ⟨hqu, hi0, hb1, hG⟩ | ⟨hs0, _⟩
    rotate_left
    ·
      -- a member that leaves
      cases hfn : f i with
      | zero => rw [hfn] at hG; rw [hG.1] at hrun; cases hrun
      | succ n =>
        rw [hfn] at hG
        rcases hG with ⟨hf, _⟩ | ⟨_, g', es, hmu, hstp, hq'⟩
        · rw [hf] at hrun; cases hrun
        have hT : T.tr (upd ps i (ps i)) j (t ++ MemOp.ofEvents (ix c i) g.frame.fn g.frame.place es) := by
          rw [upd_self]
          refine X.mute ps j t (ix c i) es _ _ h.tr (by rw [ix_pos hi0]; omega) (by have := ix_lt (c := c) hi; omega) (fun k hk hkq e => ?_) hmu
          rw [ix_inj e] at hqu
          rw [hqu] at hkq; cases hkq
        obtain ⟨b'', e1, e2, e3⟩ := h'.go R hi (g := g) (g' := g') (es := es) (s' := s) (p' := ps i) (n' := n) (b' := 1) hx (fun k _ _ => R.refl k _) (.gone hqu hi0 hq') (fun _ => rfl) (Nat.le_refl _) h'.conc (by rw [upd_self]; exact h.inv) (fun _ hn => .inl hn) hT
        rw [upd_self] at e3
        refine ⟨s, ps, j, _, b'', q, _, _, sl', _, runT_crowd_go hx (by rw [hbeq, show (i == 0) = false from by simpa using hi0]; exact hstp _), e3, .inr ⟨rfl, ?_⟩⟩
        have := sum_lt (f := f) (i := i) (j := j) (n := n) hi hfn.symm
        unfold mu2; omega
    · rw [hs0] at hrun; cases hrun
    ·
      have hact : (∀ w₁, T.rely i w w₁ → Stop T i (ps i) g w₁) → ∃ s' ps' j' f' b' q' gs' w' sl'' ops, runT P (crowd gs (w.at d) sl') (ix c i) = (.next (crowd gs' w' sl''), ops) ∧ Inv T c s' ps' j' f' b' q' gs' w' (t ++ ops) ∧ (T.meas s' ps' j' < T.meas s ps j ∨ (T.meas s' ps' j' = T.meas s ps j ∧ mu2 c j' f' b' q' < mu2 c j f b q)) := by
        intro hS0
        have hS : ∀ w₁, T.rely i (w.at d) w₁ → Stop T i (ps i) g w₁ := fun w₁ h₁ => hS0 w₁ (R.trans i _ _ _ (R.draws i w d) h₁)
        obtain ⟨hr, ho, hN⟩ := hS _ (R.refl i _)
        have hN := hN s (R.ok s ps j i h.inv hi hqu) h'.conc
        cases hnx : T.next i (ps i) s with
        | act s' p' =>
          rw [hnx] at hN
          obtain ⟨g', w', es, hgo, hco, hre, hev, hsit, hwk⟩ := hN
          obtain ⟨hI, hM⟩ := R.act s ps j i s' p' h.inv hi hqu hnx
          obtain ⟨hT, hD⟩ := X.act s ps j t i s' p' es g.frame.fn g.frame.place h.inv h.tr hi hqu hnx hde hev
          have hmem : ∃ n' , Mem T i p' s' (deafBehind (Deaf t (ix c i)) es) w' n' 1 g' := by
            rw [hde, hD]
            cases hq' : T.quit p' with
            | false =>
              obtain ⟨n', hG'⟩ := R.sit i p' g' w' hsit hq'
              exact ⟨n', .walk hq' rfl hG'⟩
            | true =>
              obtain ⟨n', hG'⟩ := R.sitQ i p' g' w' hsit hq'
              refine ⟨n', .gone hq' (fun e => ?_) hG'⟩
              subst e
              have := R.main s' (upd ps 0 p') j hI
              rw [upd_same, hq'] at this; cases this
          obtain ⟨n', hmem⟩ := hmem
          obtain ⟨b'', _, _, e3⟩ := h'.go R hi (g := g) (g' := g') (es := es) (s' := s') (p' := p') (n' := n') (b' := 1) hx (fun k _ hk => hre k hk) hmem (fun _ => rfl) (Nat.le_refl _) hco hI
            (fun hi0 hn => by
              cases hn' : T.next 0 (ps 0) s' with
              | block => exact .inl rfl
              | act _ _ => exact .inr (hwk (R.wake s ps j i s' p' h.inv hi hi0 hqu hnx hn (by rw [hn']; simp)))
              | spawn _ _ _ => exact .inr (hwk (R.wake s ps j i s' p' h.inv hi hi0 hqu hnx hn (by rw [hn']; simp)))
              | fin => exact .inr (hwk (R.wake s ps j i s' p' h.inv hi hi0 hqu hnx hn (by rw [hn']; simp)))) hT
          exact ⟨s', _, j, _, b'', q, _, w', sl', _, runT_crowd_go hx (by rw [hbeq]; exact hgo), e3, .inl hM⟩
        | block =>
          rw [hnx] at hN
          have hi0 : i = 0 := by
            rcases Nat.eq_zero_or_pos i with h0 | h0
            · exact h0
            · obtain ⟨_, _, e⟩ := R.kid s ps j i h.inv hi (by omega) hqu
              rw [hnx] at e; cases e
          subst hi0
          obtain ⟨hT, hD⟩ : T.tr (upd ps 0 (ps 0)) j (t ++ MemOp.ofEvents (ix c 0) g.frame.fn g.frame.place #[]) ∧ True := by
            rw [upd_self]
            have e : MemOp.ofEvents (ix c 0) g.frame.fn g.frame.place #[] = #[] := by simp [ofEvents_eq]
            rw [e, Array.append_empty]
            exact ⟨h.tr, trivial⟩
          obtain ⟨b'', e1, _, e3⟩ := h'.go R hi (g := g) (g' := { g with status := .blocked }) (es := #[]) (s' := s) (p' := ps 0) (n' := 0) (b' := 0) hx (fun k _ _ => R.refl k _) (.blk hqu rfl (by rw [deafBehind_nil]; exact hde) hr ho hS hnx) (fun e => absurd rfl e) (Nat.zero_le _) h'.conc (by rw [upd_self]; exact h.inv) (fun e => absurd rfl e) hT
          rw [upd_self] at e3
          refine ⟨s, ps, j, _, b'', q, _, _, sl', _, runT_crowd_go hx (by rw [hbeq]; exact hN), e3, .inr ⟨rfl, ?_⟩⟩
          rw [if_pos rfl] at hb1
          have : sumTo (j + 1) (upd f 0 0) + f 0 = sumTo (j + 1) f + 0 := sumTo_upd f 0 id (i := 0) (j := j + 1) (by omega)
          rw [e1 rfl]
          unfold mu2; omega
        | spawn s' p' pq =>
          rw [hnx] at hN
          have hi0 : i = 0 := by
            rcases Nat.eq_zero_or_pos i with h0 | h0
            · exact h0
            · obtain ⟨_, _, e⟩ := R.kid s ps j i h.inv hi (by omega) hqu
              rw [hnx] at e; cases e
          subst hi0
          obtain ⟨g', child, w', hgo, hco, hre, hsit, hcr, hkid⟩ := hN
          obtain ⟨hI, hM, hq1, hq2, hk⟩ := R.spawn s ps j s' p' pq h.inv hnx
          have hab := h.above (c + 1 + j) (Nat.le_refl _)
          obtain ⟨hT, hD1, hD2⟩ := X.spawn s ps j t s' p' pq g.frame.fn child.frame.fn g.frame.place h.inv h.tr hnx hde hab
          obtain ⟨n', hG'⟩ := R.sit 0 p' g' w' hsit hq1
          rw [hk] at hkid
          obtain ⟨m', hK'⟩ := R.sit (j + 1) pq child w' hkid hq2
          have hrunT := runT_crowd_spawn (P := P) (sl := sl') (i := 0) hx (show stepG P (0 == 0) g (w.at d) = _ from hgo)
          have eops : ((MemOp.ofEvents 0 g.frame.fn g.frame.place #[]).push { g := 0, fn := g.frame.fn, pos := g.frame.place, act := .go gs.size } |>.push { g := gs.size, fn := child.frame.fn, pos := g.frame.place, act := .start }) = #[{ g := 0, fn := g.frame.fn, pos := g.frame.place, act := .go (c + 1 + j) }, { g := c + 1 + j, fn := child.frame.fn, pos := g.frame.place, act := .start }] := by
            rw [h.size]; simp [ofEvents_eq]
          rw [eops] at hrunT
          have ej : (j + 1 == 0) = false := by simp
          have hmc : Mem T (j + 1) pq s' 0 w' m' 1 child := .walk hq2 hD2.symm hK'
          have e3 := h'.born R (g := g) (g' := g') (child := child) (p' := p') (pq := pq) (n' := n') (m' := m') hx hre (.walk hq1 (by rw [hD1]; exact hde) hG') hmc hco hI (fun k => deaf_go t k _ _ _ _) hT
          exact ⟨s', _, j + 1, _, 1, q, _, w', sl', _, hrunT, e3, .inl hM⟩
        | fin =>
          exfalso
          have hi0 : i = 0 := by
            rcases Nat.eq_zero_or_pos i with h0 | h0
            · exact h0
            · obtain ⟨_, _, e⟩ := R.kid s ps j i h.inv hi (by omega) hqu
              rw [hnx] at e; cases e
          subst hi0
          exact hd ⟨hnx, g, hx, hS0⟩
      cases hfn : f i with
      | zero => rw [hfn] at hG; exact hact hG
      | succ n =>
        rw [hfn] at hG
        rcases hG with hS | ⟨_, hstp⟩
        · exact hact hS
        have hs := hstp _ (R.draws i w d)
        cases hgo : stepG P (i == 0) g (w.at d) with
        | go g' w' es =>
          rw [hgo, goes_go] at hs
          obtain ⟨hD, hG'⟩ := hs
          obtain ⟨hT, hde'⟩ := X.walk s ps j t i _ w' es g.frame.fn g.frame.place h.inv h.tr hi hqu hde hD
          rw [← upd_self ps i] at hT
          obtain ⟨b'', e1, e2, e3⟩ := h'.go R hi (g := g) (g' := g') (es := es) (s' := s) (p' := ps i) (n' := n) (b' := 1) hx (fun k hk hki => R.stepR i _ _ _ _ hD k hki (fun e => by subst e; exact Nat.le_trans hk (R.num s ps j h.inv))) (.walk hqu (by rw [hde, hde']) hG') (fun _ => rfl) (Nat.le_refl _) (R.stepC i _ _ _ _ s hD h'.conc) (by rw [upd_self]; exact h.inv) (fun _ hn => .inl hn) hT
          rw [upd_self] at e3
          refine ⟨s, ps, j, _, b'', q, _, w', sl', _, runT_crowd_go hx (by rw [hbeq]; exact hgo), e3, .inr ⟨rfl, ?_⟩⟩
          have := sum_lt (f := f) (i := i) (j := j) (n := n) hi hfn.symm
          unfold mu2; omega
        | _ => rw [hgo] at hs; exact hs.elim
  · -- an elder leaver
    cases hqx : q x with
    | zero => rw [hqx] at hq; rw [hq.1] at hrun; cases hrun
    | succ n =>
      rw [hqx] at hq
      rcases hq with ⟨hf, _⟩ | ⟨_, g', es, hmu, hstp, hq'⟩
      · rw [hf] at hrun; cases hrun
      have hx0 : (x == 0) = false := by simp; omega
      have hT := X.mute ps j t x es g.frame.fn g.frame.place h.tr (by omega) (by omega) (fun k hk _ e => by unfold ix at e; split at e <;> omega) hmu
      obtain ⟨b'', e2, e3⟩ := h'.slip R x1 x2 (g := g) (g' := g') (es := es) (n' := n) hx hq' hT
      refine ⟨s, ps, j, _, b'', _, _, _, sl', _, runT_crowd_go hx (by rw [hx0]; exact hstp _), e3, .inr ⟨rfl, ?_⟩⟩
      have := sum_lt (f := q) (i := x) (j := c) (n := n) x2 hqx.symm
      unfold mu2; omega

/-- ON WHATEVER TAPE the first member comes to its end. -/
theorem runs (R : Rules T) (X : Traced T c) : ∀ (m1 m2 : Nat) {s : S} {ps : Nat → Pos} {j : Nat} {f : Nat → Nat} {b : Nat} {q : Nat → Nat} {gs : Array Goroutine} {w : World} {t : Trace} {sl : Option (Nat × Nat)}, T.meas s ps j ≤ m1 → mu2 c j f b q ≤ m2 → Inv T c s ps j f b q gs w t →
    ∃ N s' ps' j' f' b' q' gs' w' sl' t', runNT P N (crowd gs w sl) t = (.next (crowd gs' w' sl'), t') ∧ Inv T c s' ps' j' f' b' q' gs' w' t' ∧ Done T s' ps' gs' w' := by
  intro m1
  induction m1 with
  | zero =>
    intro m2
    induction m2 with
    | zero =>
      intro s ps j f b q gs w t sl h1 h2 h
      by_cases hd : Done T s ps gs w
      · exact ⟨0, s, ps, j, f, b, q, gs, w, sl, t, rfl, h, hd⟩
      · obtain ⟨s', ps', j', f', b', q', gs', w', sl', ops, hst, hI, hlt⟩ := step (sl := sl) R X h hd
        omega
    | succ m2 ih =>
      intro s ps j f b q gs w t sl h1 h2 h
      by_cases hd : Done T s ps gs w
      · exact ⟨0, s, ps, j, f, b, q, gs, w, sl, t, rfl, h, hd⟩
      · obtain ⟨s', ps', j', f', b', q', gs', w', sl', ops, hst, hI, hlt⟩ := step (sl := sl) R X h hd
        obtain ⟨N, s2, ps2, j2, f2, b2, q2, gs2, w2, sl2, t2, hr, hI2, hd2⟩ := ih (sl := sl') (by omega) (by omega) hI
        exact ⟨N + 1, s2, ps2, j2, f2, b2, q2, gs2, w2, sl2, t2, by simp only [runNT, hst]; exact hr, hI2, hd2⟩
  | succ m1 ih1 =>
    intro m2
    induction m2 with
    | zero =>
      intro s ps j f b q gs w t sl h1 h2 h
      by_cases hd : Done T s ps gs w
      · exact ⟨0, s, ps, j, f, b, q, gs, w, sl, t, rfl, h, hd⟩
      · obtain ⟨s', ps', j', f', b', q', gs', w', sl', ops, hst, hI, hlt⟩ := step (sl := sl) R X h hd
        obtain ⟨N, s2, ps2, j2, f2, b2, q2, gs2, w2, sl2, t2, hr, hI2, hd2⟩ := ih1 (mu2 c j' f' b' q') (sl := sl') (by omega) (Nat.le_refl _) hI
        exact ⟨N + 1, s2, ps2, j2, f2, b2, q2, gs2, w2, sl2, t2, by simp only [runNT, hst]; exact hr, hI2, hd2⟩
    | succ m2 ih =>
      intro s ps j f b q gs w t sl h1 h2 h
      by_cases hd : Done T s ps gs w
      · exact ⟨0, s, ps, j, f, b, q, gs, w, sl, t, rfl, h, hd⟩
      · obtain ⟨s', ps', j', f', b', q', gs', w', sl', ops, hst, hI, hlt⟩ := step (sl := sl) R X h hd
        by_cases hm : T.meas s' ps' j' ≤ m1
        · obtain ⟨N, s2, ps2, j2, f2, b2, q2, gs2, w2, sl2, t2, hr, hI2, hd2⟩ := ih1 (mu2 c j' f' b' q') (sl := sl') hm (Nat.le_refl _) hI
          exact ⟨N + 1, s2, ps2, j2, f2, b2, q2, gs2, w2, sl2, t2, by simp only [runNT, hst]; exact hr, hI2, hd2⟩
        · obtain ⟨N, s2, ps2, j2, f2, b2, q2, gs2, w2, sl2, t2, hr, hI2, hd2⟩ := ih (sl := sl') (by omega) (by omega) hI
          exact ⟨N + 1, s2, ps2, j2, f2, b2, q2, gs2, w2, sl2, t2, by simp only [runNT, hst]; exact hr, hI2, hd2⟩
end
end Go.Proofs.Ytboiolnnhmlieaa.Gang
