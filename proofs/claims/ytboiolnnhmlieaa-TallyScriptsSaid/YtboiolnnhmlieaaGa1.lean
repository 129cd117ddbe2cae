
/-
  A team: one goroutine that starts others, all sharing a state that they turn by single actions; each walks between its actions. The machine of it behind a prefix with leavers, on whatever tape.
  Conditions: stated lemma by lemma.
-/
import Derived.Conc.Beside
namespace Go.Proofs.Ytboiolnnhmlieaa.Gang
open Go.Conc Go.ConcN
set_option linter.unusedVariables false

/-- what an action makes of the shared state and of its member's place -/
inductive Eff (S Pos : Type) where
  | act (s : S) (p : Pos)
  | block
  | spawn (s : S) (p q : Pos)
  | fin

/-- a team's plan: member 0 starts the others; no program in the words 'next', 'inv', 'meas' -/
structure Team (P : Program) (S Pos : Type) where
  next : Nat → Pos → S → Eff S Pos
  quit : Pos → Bool
  deaf : Pos → Nat
  kid : Pos → Nat
  num : Pos → Nat
  wakes : Pos → S → Bool
  ok : Nat → Pos → S → Prop
  inv : S → (Nat → Pos) → Nat → Prop
  meas : S → (Nat → Pos) → Nat → Nat
  conc : S → World → Prop
  rely : Nat → World → World → Prop
  step : Nat → Pos → World → World → Array Event → Prop
  ev : Nat → Pos → Pos → Array Event → Prop
  sit : Nat → Pos → Goroutine → World → Prop
  last : S → Goroutine → World → Prop
  tr : (Nat → Pos) → Nat → Trace → Prop

section
variable {P : Program} {S Pos : Type}
/-- at an action: whatever the shared state is -/
def Stop (T : Team P S Pos) (i : Nat) (p : Pos) (g : Goroutine) (w : World) : Prop :=
  g.status = .running ∧ g.offers = none ∧ ∀ s, T.ok i p s → T.conc s w → match T.next i p s with
    | .act s' p' => ∃ g' w' es, stepG P (i == 0) g w = .go g' w' es ∧ T.conc s' w' ∧ (∀ k, k ≠ i → T.rely k w w') ∧ T.ev i p p' es ∧ T.sit i p' g' w' ∧ (T.wakes p s = true → mayWake P g = true ∧ g'.status = .running)
    | .block => stepG P (i == 0) g w = .go { g with status := .blocked } w #[]
    | .spawn s' p' q => ∃ g' child w', stepG P (i == 0) g w = .spawn g' child w' #[] ∧ T.conc s' w' ∧ (∀ k, k ≠ i → T.rely k w w') ∧ T.sit i p' g' w' ∧ child.status = .running ∧ T.sit (T.kid p) q child w'
    | .fin => T.last s g w
/-- the machine's number of a member: c leavers stand between the first and the others -/
def ix (c i : Nat) : Nat := if i = 0 then 0 else c + i
theorem ix_zero (c : Nat) : ix c 0 = 0 := rfl
theorem ix_pos {c i : Nat} (h : i ≠ 0) : ix c i = c + i := if_neg h
theorem ix_inj {c i k : Nat} (h : ix c i = ix c k) : i = k := by
  unfold ix at h
  split at h <;> split at h <;> omega
theorem ix_beq (c i : Nat) : (ix c i == 0) = (i == 0) := by
  unfold ix
  split
  · next h => rw [h]
  · next h =>
    have h1 : (i == 0) = false := by simpa using h
    have h2 : (c + i == 0) = false := by simp; omega
    rw [h1, h2]

/-- what a team keeps to -/
structure Rules (T : Team P S Pos) : Prop where
  trans : ∀ i a b c, T.rely i a b → T.rely i b c → T.rely i a c
  draws : ∀ i w d, T.rely i w (w.at d)
  concAt : ∀ s w d, T.conc s w → T.conc s (w.at d)
  stepR : ∀ i p w w' es, T.step i p w w' es → ∀ k, k ≠ i → (i = 0 → k ≤ T.num p) → T.rely k w w'
  num : ∀ s ps j, T.inv s ps j → j ≤ T.num (ps 0)
  stepC : ∀ i p w w' es s, T.step i p w w' es → T.conc s w → T.conc s w'
  sit : ∀ i p g w, T.sit i p g w → T.quit p = false → ∃ n, Goes P (i == 0) (T.rely i) (T.step i p) (Stop T i p) n g w
  sitQ : ∀ i p g w, T.sit i p g w → T.quit p = true → ∃ n, QuitsD P n (T.deaf p) g
  ok : ∀ s ps j i, T.inv s ps j → i ≤ j → T.quit (ps i) = false → T.ok i (ps i) s
  main : ∀ s ps j, T.inv s ps j → T.quit (ps 0) = false
  kid : ∀ s ps j i, T.inv s ps j → i ≤ j → i ≠ 0 → T.quit (ps i) = false → ∃ s' p', T.next i (ps i) s = .act s' p'
  act : ∀ s ps j i s' p', T.inv s ps j → i ≤ j → T.quit (ps i) = false → T.next i (ps i) s = .act s' p' → T.inv s' (upd ps i p') j ∧ T.meas s' (upd ps i p') j < T.meas s ps j
  wake : ∀ s ps j i s' p', T.inv s ps j → i ≤ j → i ≠ 0 → T.quit (ps i) = false → T.next i (ps i) s = .act s' p' → T.next 0 (ps 0) s = .block → T.next 0 (ps 0) s' ≠ .block → T.wakes (ps i) s = true
  spawn : ∀ s ps j s' p' q, T.inv s ps j → T.next 0 (ps 0) s = .spawn s' p' q → T.inv s' (upd (upd ps 0 p') (j + 1) q) (j + 1) ∧ T.meas s' (upd (upd ps 0 p') (j + 1) q) (j + 1) < T.meas s ps j ∧ T.quit p' = false ∧ T.quit q = false ∧ T.kid (ps 0) = j + 1
  live : ∀ s ps j, T.inv s ps j → T.next 0 (ps 0) s = .block → ∃ i, 1 ≤ i ∧ i ≤ j ∧ T.quit (ps i) = false
  ends : ∀ s ps j, T.inv s ps j → T.next 0 (ps 0) s = .fin → ∀ i, 1 ≤ i → i ≤ j → T.quit (ps i) = true

/-- how the trace may grow -/
structure Traced (T : Team P S Pos) (c : Nat) : Prop where
  walk : ∀ s ps j t i w w' es fn pos, T.inv s ps j → T.tr ps j t → i ≤ j → T.quit (ps i) = false → Deaf t (ix c i) = T.deaf (ps i) → T.step i (ps i) w w' es → T.tr ps j (t ++ MemOp.ofEvents (ix c i) fn pos es) ∧ deafBehind (T.deaf (ps i)) es = T.deaf (ps i)
  act : ∀ s ps j t i s' p' es fn pos, T.inv s ps j → T.tr ps j t → i ≤ j → T.quit (ps i) = false → T.next i (ps i) s = .act s' p' → Deaf t (ix c i) = T.deaf (ps i) → T.ev i (ps i) p' es → T.tr (upd ps i p') j (t ++ MemOp.ofEvents (ix c i) fn pos es) ∧ deafBehind (T.deaf (ps i)) es = T.deaf p'
  mute : ∀ ps j t x es fn pos, T.tr ps j t → x ≠ 0 → x ≤ c + j → (∀ i, i ≤ j → T.quit (ps i) = false → x ≠ ix c i) → (∀ e ∈ es, Event.mute e = true) → T.tr ps j (t ++ MemOp.ofEvents x fn pos es)
  spawn : ∀ s ps j t s' p' q fn fn' pos, T.inv s ps j → T.tr ps j t → T.next 0 (ps 0) s = .spawn s' p' q → Deaf t 0 = T.deaf (ps 0) → Deaf t (c + 1 + j) = 0 →
    T.tr (upd (upd ps 0 p') (j + 1) q) (j + 1) (t ++ #[{ g := 0, fn, pos, act := .go (c + 1 + j) }, { g := c + 1 + j, fn := fn', pos, act := .start }]) ∧ T.deaf p' = T.deaf (ps 0) ∧ T.deaf q = 0

/-- a member in the machine -/
inductive Mem (T : Team P S Pos) (i : Nat) (p : Pos) (s : S) (d : Nat) (w : World) : Nat → Nat → Goroutine → Prop
  | walk {n : Nat} {g : Goroutine} : T.quit p = false → d = T.deaf p → Goes P (i == 0) (T.rely i) (T.step i p) (Stop T i p) n g w → Mem T i p s d w n 1 g
  | gone {n : Nat} {g : Goroutine} : T.quit p = true → i ≠ 0 → QuitsD P n d g → Mem T i p s d w n 1 g
  | blk {g : Goroutine} : T.quit p = false → i = 0 → d = T.deaf p → g.status = .running → g.offers = none → (∀ w₁, T.rely i w w₁ → Stop T i p g w₁) → T.next i p s = .block → Mem T i p s d w 0 0 { g with status := .blocked }

structure Inv (T : Team P S Pos) (c : Nat) (s : S) (ps : Nat → Pos) (j : Nat) (f : Nat → Nat) (b : Nat) (q : Nat → Nat) (gs : Array Goroutine) (w : World) (t : Trace) : Prop where
  size : gs.size = c + 1 + j
  mem : ∀ i, i ≤ j → ∃ g, gs[ix c i]? = some g ∧ Mem T i (ps i) s (Deaf t (ix c i)) w (f i) (if i = 0 then b else 1) g
  old : ∀ x, 1 ≤ x → x ≤ c → ∃ g, gs[x]? = some g ∧ QuitsD P (q x) (Deaf t x) g
  above : ∀ k, c + 1 + j ≤ k → Deaf t k = 0
  conc : T.conc s w
  inv : T.inv s ps j
  tr : T.tr ps j t
/-- the second part of the measure -/
def mu2 (c j : Nat) (f : Nat → Nat) (b : Nat) (q : Nat → Nat) : Nat := 2 * sumTo (j + 1) f + b + 2 * sumTo (c + 1) q

theorem goes_running {main : Bool} {R : World → World → Prop} {D : World → World → Array Event → Prop} {St : Goroutine → World → Prop} (hr : ∀ w, R w w) (hS : ∀ g w, St g w → g.status = .running) {n : Nat} {g : Goroutine} {w : World} (h : Goes P main R D St n g w) : g.status = .running := by
  cases n with
  | zero => exact hS g w (h w (hr w))
  | succ n => exact h.elim (fun h => hS g w (h w (hr w))) (fun h => h.1)

variable {T : Team P S Pos} {c : Nat}
theorem Rules.refl (R : Rules T) (i : Nat) (w : World) : T.rely i w w := R.draws i w w.drawn
theorem Mem.status (R : Rules T) {i : Nat} {p : Pos} {s : S} {d : Nat} {w : World} {n b : Nat} {g : Goroutine} (h : Mem T i p s d w n b g) : (g.status = .running ∨ g.status = .finished) ∨ (g.status = .blocked ∧ b = 0) := by
  cases h with
  | walk _ _ h => exact .inl (.inl (goes_running (R.refl i) (fun _ _ h => h.1) h))
  | gone _ _ h => exact .inl h.status
  | blk => exact .inr ⟨rfl, rfl⟩
/-- a member while another acts -/
theorem Mem.other (R : Rules T) {i : Nat} {p : Pos} {s s' : S} {d : Nat} {w w' : World} {n b : Nat} {g x x' : Goroutine} (h : Mem T i p s d w n b g) (hr : T.rely i w w')
    (hb : i = 0 → T.next 0 p s = .block → T.next 0 p s' = .block ∨ (mayWake P x = true ∧ x'.status = .running)) : ∃ b', b' ≤ 1 ∧ (i ≠ 0 → b' = b) ∧ Mem T i p s' d w' n b' (woken P x x' w' g) := by
  cases h with
  | walk hq hd hG =>
    refine ⟨1, Nat.le_refl _, fun _ => rfl, ?_⟩
    rw [woken_run (goes_running (R.refl i) (fun _ _ h => h.1) hG)]
    exact .walk hq hd (hG.rely (R.trans i) hr)
  | gone hq hi hG =>
    refine ⟨1, Nat.le_refl _, fun _ => rfl, ?_⟩
    rw [woken_quitsD hG]
    exact .gone hq hi hG
  | @blk g hq hi hd hs ho hS hn =>
    subst hi
    by_cases hw : mayWake P x = true ∧ x'.status ≠ .blocked ∧ x'.status ≠ .waiting
    · refine ⟨1, Nat.le_refl _, fun h => absurd rfl h, ?_⟩
      have e : woken P x x' w' { g with status := .blocked } = g := by
        unfold woken
        rw [if_pos (by simp [hw.1, hw.2.1, hw.2.2])]
        unfold Goroutine.again
        simp only [ho]
        cases g; simp_all
      rw [e]
      exact .walk hq hd (Goes.stop fun w₁ h₁ => hS w₁ (R.trans 0 _ _ _ hr h₁))
    · refine ⟨0, Nat.zero_le _, fun h => absurd rfl h, ?_⟩
      have e : woken P x x' w' { g with status := .blocked } = { g with status := .blocked } := by
        unfold woken
        rw [if_neg]
        intro hh
        simp only [Bool.and_eq_true, bne_iff_ne, ne_eq] at hh
        exact hw ⟨hh.1.1, hh.1.2, hh.2⟩
      rw [e]
      refine .blk hq rfl hd hs ho (fun w₁ h₁ => hS w₁ (R.trans 0 _ _ _ hr h₁)) ((hb rfl hn).resolve_right fun hh => hw ⟨hh.1, ?_, ?_⟩)
      · rw [hh.2]; simp
      · rw [hh.2]; simp
theorem Mem.at (R : Rules T) {i : Nat} {p : Pos} {s : S} {d : Nat} {w : World} {n b : Nat} {g : Goroutine} (h : Mem T i p s d w n b g) (k : Nat) : Mem T i p s d (w.at k) n b g := by
  cases h with
  | walk hq hd hG => exact .walk hq hd (hG.rely (R.trans i) (R.draws i w k))
  | gone hq hi hG => exact .gone hq hi hG
  | blk hq hi hd hs ho hS hn => exact .blk hq hi hd hs ho (fun w₁ h₁ => hS w₁ (R.trans i _ _ _ (R.draws i w k) h₁)) hn
theorem Inv.at (R : Rules T) {s : S} {ps : Nat → Pos} {j : Nat} {f : Nat → Nat} {b : Nat} {q : Nat → Nat} {gs : Array Goroutine} {w : World} {t : Trace} (h : Inv T c s ps j f b q gs w t) (k : Nat) : Inv T c s ps j f b q gs (w.at k) t :=
  { h with mem := fun i hi => let ⟨g, h1, h2⟩ := h.mem i hi; ⟨g, h1, h2.at R k⟩, conc := R.concAt s w k h.conc }

theorem ev_g {g : Nat} {fn : FuncId} {pos : String} {es : Array Event} : ∀ op ∈ MemOp.ofEvents g fn pos es, op.g = g := by
  intro op hop
  rw [ofEvents_eq] at hop
  obtain ⟨e, _, rfl⟩ := Array.mem_map.1 hop
  rfl
theorem ix_lt {c j i : Nat} (h : i ≤ j) : ix c i < c + 1 + j := by unfold ix; split <;> omega

/-- WHATEVER STEP OF MEMBER i THAT STARTS NOBODY: the frame. -/
theorem Inv.go (R : Rules T) {s s' : S} {ps : Nat → Pos} {j : Nat} {f : Nat → Nat} {b : Nat} {q : Nat → Nat} {gs : Array Goroutine} {w w' : World} {t : Trace} (h : Inv T c s ps j f b q gs w t)
    {i : Nat} (hi : i ≤ j) {g g' : Goroutine} {es : Array Event} {p' : Pos} {n' b' : Nat} (hg : gs[ix c i]? = some g) (hr : ∀ k, k ≤ j → k ≠ i → T.rely k w w')
    (hm : Mem T i p' s' (deafBehind (Deaf t (ix c i)) es) w' n' b' g') (hb : i ≠ 0 → b' = 1) (hb1 : b' ≤ 1) (hc : T.conc s' w') (hI : T.inv s' (upd ps i p') j)
    (hw : i ≠ 0 → T.next 0 (ps 0) s = .block → T.next 0 (ps 0) s' = .block ∨ (mayWake P g = true ∧ g'.status = .running))
    (ht : T.tr (upd ps i p') j (t ++ MemOp.ofEvents (ix c i) g.frame.fn g.frame.place es)) :
    ∃ b'', (i = 0 → b'' = b') ∧ b'' ≤ 1 ∧ Inv T c s' (upd ps i p') j (upd f i n') b'' q ((gs.map (woken P g g' w')).setIfInBounds (ix c i) g') w' (t ++ MemOp.ofEvents (ix c i) g.frame.fn g.frame.place es) := by
  have hlt : ix c i < gs.size := by rw [h.size]; exact ix_lt hi
  -- the first member's flag
  obtain ⟨b'', e1, e2, e3⟩ : ∃ b'', (i = 0 → b'' = b') ∧ b'' ≤ 1 ∧ ∀ k, k ≤ j → ∃ gk, ((gs.map (woken P g g' w')).setIfInBounds (ix c i) g')[ix c k]? = some gk ∧ Mem T k (upd ps i p' k) s' (Deaf (t ++ MemOp.ofEvents (ix c i) g.frame.fn g.frame.place es) (ix c k)) w' (upd f i n' k) (if k = 0 then b'' else 1) gk := by
    have other : ∀ k, k ≤ j → k ≠ i → ∀ gk, gs[ix c k]? = some gk → Mem T k (ps k) s (Deaf t (ix c k)) w (f k) (if k = 0 then b else 1) gk → ∃ bk, bk ≤ 1 ∧ (k ≠ 0 → bk = 1) ∧ ((gs.map (woken P g g' w')).setIfInBounds (ix c i) g')[ix c k]? = some (woken P g g' w' gk) ∧ Mem T k (upd ps i p' k) s' (Deaf (t ++ MemOp.ofEvents (ix c i) g.frame.fn g.frame.place es) (ix c k)) w' (upd f i n' k) bk (woken P g g' w' gk) := by
      intro k hk hki gk hgk hmk
      have hne : ix c i ≠ ix c k := fun e => hki (ix_inj e).symm
      obtain ⟨bk, h1, h2, h3⟩ := hmk.other R (x := g) (x' := g') (hr k hk hki) (fun hk0 hn => by subst hk0; exact hw (fun e => hki e.symm) hn)
      refine ⟨bk, h1, fun hk0 => by rw [h2 hk0, if_neg hk0], ?_, ?_⟩
      · rw [Array.getElem?_setIfInBounds_ne hne, Array.getElem?_map, hgk]; rfl
      · rw [upd_ne _ _ hki, upd_ne _ _ hki, Deaf_other t hne _ ev_g]
        exact h3
    have own : ((gs.map (woken P g g' w')).setIfInBounds (ix c i) g')[ix c i]? = some g' := by
      rw [Array.getElem?_setIfInBounds_self_of_lt (by simpa using hlt)]
    rcases Nat.eq_zero_or_pos i with rfl | hpos
    · refine ⟨b', fun _ => rfl, hb1, fun k hk => ?_⟩
      by_cases hki : k = 0
      · subst hki
        exact ⟨g', own, by rw [upd_same, upd_same, Deaf_own, if_pos rfl]; exact hm⟩
      · obtain ⟨gk, h1, h2⟩ := h.mem k hk
        obtain ⟨bk, _, h4, h5, h6⟩ := other k hk hki gk h1 h2
        exact ⟨_, h5, by rw [if_neg hki, ← h4 hki]; exact h6⟩
    · obtain ⟨g0, k1, k2⟩ := h.mem 0 (Nat.zero_le _)
      obtain ⟨b0, k3, _, k5, k6⟩ := other 0 (Nat.zero_le _) (by omega) g0 k1 k2
      refine ⟨b0, fun e => by omega, k3, fun k hk => ?_⟩
      by_cases hk0 : k = 0
      · subst hk0
        exact ⟨_, k5, by rw [if_pos rfl]; exact k6⟩
      · by_cases hki : k = i
        · subst hki
          exact ⟨g', own, by rw [upd_same, upd_same, Deaf_own, if_neg hk0, ← hb hk0]; exact hm⟩
        · obtain ⟨gk, h1, h2⟩ := h.mem k hk
          obtain ⟨bk, _, h4, h5, h6⟩ := other k hk hki gk h1 h2
          exact ⟨_, h5, by rw [if_neg hk0, ← h4 hk0]; exact h6⟩
  refine ⟨b'', e1, e2, ⟨by simp [h.size], e3, fun x h1 h2 => ?_, fun k hk => ?_, hc, hI, ht⟩⟩
  · obtain ⟨gx, h3, h4⟩ := h.old x h1 h2
    have hne : ix c i ≠ x := by unfold ix; split <;> omega
    refine ⟨gx, ?_, ?_⟩
    · rw [Array.getElem?_setIfInBounds_ne hne, Array.getElem?_map, h3]
      simp [woken_quitsD h4]
    · rw [Deaf_other t hne _ ev_g]; exact h4
  · have hne : ix c i ≠ k := by have := ix_lt (c := c) hi; omega
    rw [Deaf_other t hne _ ev_g]
    exact h.above k hk
end
end Go.Proofs.Ytboiolnnhmlieaa.Gang
