
/-
  The trace of a WaitGroup's team behind a prefix: who knows what; it grows by each one's operations.
  Conditions: stated lemma by lemma.
-/
import Derived.Test.YtboiolnnhmlieaaGa4
import Derived.Conc.CrowdRun
namespace Go.Proofs.Ytboiolnnhmlieaa.Gang
open Go.Conc Go.ConcN
open Go.ConcR (wgBlock WgAt stA smA rd wr mk KK Bk ofEvent_cell ofEvent_mk ofEvent_loc_mark loc_of_ofEvent)
set_option linter.unusedVariables false
set_option linter.unusedSimpArgs false

/-- the machine's numbers in the place of the workers' -/
def fam (c : Nat) (F : Nat → Loc → Prop) : Nat → Loc → Prop := fun k l => ∃ i, 1 ≤ i ∧ k = c + i ∧ F i l
theorem fam_at {c i : Nat} {F : Nat → Loc → Prop} {l : Loc} (h1 : 1 ≤ i) : fam c F (c + i) l ↔ F i l :=
  ⟨fun ⟨k, _, e, h⟩ => by have : i = k := by omega
                          rw [this]; exact h, fun h => ⟨i, h1, rfl, h⟩⟩
/-- places: the group's own (touched atomically or by a word, for good) · those that the workers touch atomically, in hearing · a worker's own · what a worker reads -/
structure Places where
  Sh : Loc → Prop
  Sx : Loc → Prop
  Own : Nat → Loc → Prop
  Rd : Nat → Loc → Prop
structure Places.Apart (L : Places) : Prop where
  own : ∀ k k' l, L.Own k l → L.Own k' l → k = k'
  ownRd : ∀ k k' l, L.Own k l → ¬ L.Rd k' l
  ownSh : ∀ k l, L.Own k l → ¬ L.Sh l
  rdSh : ∀ k l, L.Rd k l → ¬ L.Sh l
  ownSx : ∀ k l, L.Own k l → ¬ L.Sx l
  rdSx : ∀ k l, L.Rd k l → ¬ L.Sx l
  sxSh : ∀ l, L.Sx l → ¬ L.Sh l
  sxMem : ∀ l, L.Sx l → l.isMemory = true
theorem Places.Apart.fam {L : Places} (h : L.Apart) (c : Nat) : Go.ConcN.Apart L.Sh (fam c L.Own) (fam c L.Rd) :=
  ⟨fun k k' l ⟨i, _, e, a⟩ ⟨i', _, e', a'⟩ => by have := h.own i i' l a a'; omega, fun k k' l ⟨i, _, _, a⟩ ⟨i', _, _, a'⟩ => h.ownRd i i' l a a', fun k l ⟨i, _, _, a⟩ => h.ownSh i l a, fun k l ⟨i, _, _, a⟩ => h.rdSh i l a⟩
theorem fam_sx {L : Places} (h : L.Apart) {c k : Nat} {l : Loc} (hl : fam c L.Own k l ∨ fam c L.Rd k l) : ¬ L.Sx l := by
  rcases hl with ⟨i, _, _, a⟩ | ⟨i, _, _, a⟩
  · exact h.ownSx i l a
  · exact h.rdSx i l a

/-! the trace's law: the kit's 'CT', with the places 'Sx' beside; whatever was done there ahead is known to every member -/
structure CQ (L : Places) (c : Nat) (t : Trace) (j : Nat) : Prop where
  quiet : Quiet L.Sh t
  mixed : ∀ i x, touchAt t i = some x → L.Sx x.loc → x.kind = .atomic ∨ ∀ k, (k = 0 ∨ (c < k ∧ k ≤ j)) → Knows t k i
  own : ∀ k, 1 ≤ k → k ≤ j → ∀ l, fam c L.Own k l → Perm t k l
  rd : ∀ k, 1 ≤ k → k ≤ j → ∀ l, fam c L.Rd k l → PermW t k l
  free : ∀ l, ¬ L.Sh l → ¬ L.Sx l → (∀ k, 1 ≤ k → k ≤ j → ¬ fam c L.Own k l ∧ ¬ fam c L.Rd k l) → Perm t 0 l
  mine : ∀ l, ¬ L.Sh l → ¬ L.Sx l → (∀ k, 1 ≤ k → k ≤ j → ¬ fam c L.Own k l) → PermW t 0 l
  nr : ∀ said, ¬ Race said t
  gs : ∀ (i : Nat) (op : MemOp), t[i]? = some op → op.g ≤ j
/-- what the first may do -/
def Okz (L : Places) (c j : Nat) (op : MemOp) : Prop :=
  op.g = 0 ∧ ∀ x, op.act.touch? = some x → (L.Sh x.loc ∧ x.kind ≠ .plain) ∨ (¬ L.Sh x.loc ∧ ¬ L.Sx x.loc ∧ (∀ k, 1 ≤ k → k ≤ j → ¬ fam c L.Own k x.loc) ∧ (x.write = true → ∀ k, 1 ≤ k → k ≤ j → ¬ fam c L.Rd k x.loc))
/-- what worker k may do -/
def Okk (L : Places) (c k : Nat) (op : MemOp) : Prop :=
  op.g = k ∧ ∀ x, op.act.touch? = some x → (L.Sh x.loc ∧ x.kind ≠ .plain ∧ x.kind ≠ .said) ∨ (L.Sx x.loc ∧ x.kind = .atomic) ∨ fam c L.Own k x.loc ∨ (fam c L.Rd k x.loc ∧ x.write = false)
section
variable {L : Places} {c j : Nat} {t u : Trace}
theorem mixed_app (h : CQ L c t j) (hu : ∀ op ∈ u, ∀ x, op.act.touch? = some x → L.Sx x.loc → x.kind = .atomic) : ∀ i x, touchAt (t ++ u) i = some x → L.Sx x.loc → x.kind = .atomic ∨ ∀ k, (k = 0 ∨ (c < k ∧ k ≤ j)) → Knows (t ++ u) k i := by
  intro i x hx hs
  obtain ⟨op, ho, hoa⟩ := touch_of hx
  rcases getElem?_append_cases ho with ⟨_, hi'⟩ | ⟨_, hiu⟩
  · exact (h.mixed i x (by rw [touchAt_of hi']; exact hoa) hs).imp id (fun e k hk => (e k hk).app u)
  · exact .inl (hu op hiu x hoa hs)
theorem CQ.app0 (A : L.Apart) (h : CQ L c t j) (hu : ∀ op ∈ u, Okz L c j op) : CQ L c (t ++ u) j := by
  have A' := A.fam c
  refine ⟨h.quiet.app fun op hop x hx hs => ?_, mixed_app h fun op hop x hx hs => ?_, fun k k1 kj l hl => (h.own k k1 kj l hl).app fun op hop b hb e => ?_, fun k k1 kj l hl => (h.rd k k1 kj l hl).app fun op hop b hb e hw => ?_,
    fun l hs hx hl => (h.free l hs hx hl).app fun op hop _ _ _ => (hu op hop).1, fun l hs hx hl => (h.mine l hs hx hl).app fun op hop _ _ _ _ => (hu op hop).1, fun said => ?_, fun i op hi => ?_⟩
  · rcases (hu op hop).2 x hx with ⟨_, hk⟩ | ⟨hn, _⟩
    · exact ⟨hk, fun _ => (hu op hop).1⟩
    · exact absurd hs hn
  · rcases (hu op hop).2 x hx with ⟨hs', _⟩ | ⟨_, hn, _⟩
    · exact absurd hs' (A.sxSh _ hs)
    · exact absurd hs hn
  · rcases (hu op hop).2 b hb with ⟨hs, _⟩ | ⟨_, _, hn, _⟩
    · exact absurd (e ▸ hs) (A'.ownSh k l hl)
    · exact absurd (e ▸ hl) (hn k k1 kj)
  · rcases (hu op hop).2 b hb with ⟨hs, _⟩ | ⟨_, _, _, hn⟩
    · exact absurd (e ▸ hs) (A'.rdSh k l hl)
    · exact absurd (e ▸ hl) (hn hw k k1 kj)
  · refine noRace_append (h.nr said) (fun op hop => (hu op hop).1) (fun i a ha op hop b hb hc => ?_)
    rcases (hu op hop).2 b hb with ⟨hs, hk⟩ | ⟨hs, hx, hno, hnr⟩
    · exact h.quiet.known hs hk (fun _ => rfl) i a ha hc
    · cases hbw : b.write with
      | true => exact h.free b.loc hs hx (fun k k1 kj => ⟨hno k k1 kj, hnr hbw k k1 kj⟩) i a ha hc.1
      | false => exact h.mine b.loc hs hx hno i a ha hc.1 (hc.2.2.1.resolve_right (by simp [hbw]))
  · rcases getElem?_append_cases hi with ⟨_, hi'⟩ | ⟨_, hiu⟩
    · exact h.gs i op hi'
    · rw [(hu op hiu).1]; exact Nat.zero_le _
theorem CQ.appW (A : L.Apart) (h : CQ L c t j) {k : Nat} (kc : c < k) (kj : k ≤ j) (hu : ∀ op ∈ u, Okk L c k op) : CQ L c (t ++ u) j := by
  have A' := A.fam c
  have k1 : 1 ≤ k := by omega
  refine ⟨h.quiet.app fun op hop x hx hs => ?_, mixed_app h fun op hop x hx hs => ?_, fun k' k1' kj' l hl => (h.own k' k1' kj' l hl).app fun op hop b hb e => ?_, fun k' k1' kj' l hl => (h.rd k' k1' kj' l hl).app fun op hop b hb e hw => ?_,
    fun l hs hx hl => (h.free l hs hx hl).app fun op hop b hb e => ?_, fun l hs hx hl => (h.mine l hs hx hl).app fun op hop b hb e hw => ?_, fun said => ?_, fun i op hi => ?_⟩
  · rcases (hu op hop).2 x hx with ⟨_, hk, hn⟩ | ⟨hx', _⟩ | ho | ⟨hr, _⟩
    · exact ⟨hk, fun e => absurd e hn⟩
    · exact absurd hs (A.sxSh _ hx')
    · exact absurd hs (A'.ownSh k _ ho)
    · exact absurd hs (A'.rdSh k _ hr)
  · rcases (hu op hop).2 x hx with ⟨hs', _⟩ | ⟨_, hk⟩ | ho | ⟨hr, _⟩
    · exact absurd hs' (A.sxSh _ hs)
    · exact hk
    · exact absurd hs (fam_sx A (.inl ho))
    · exact absurd hs (fam_sx A (.inr hr))
  · rcases (hu op hop).2 b hb with ⟨hs, _⟩ | ⟨hx', _⟩ | ho | ⟨hr, _⟩
    · exact absurd (e ▸ hs) (A'.ownSh k' l hl)
    · exact absurd (e ▸ hx') (fam_sx A (.inl hl))
    · rw [(hu op hop).1]; exact A'.own k k' l (e ▸ ho) hl
    · exact absurd (e ▸ hr) (A'.ownRd k' k l hl)
  · rcases (hu op hop).2 b hb with ⟨hs, _⟩ | ⟨hx', _⟩ | ho | ⟨_, hr⟩
    · exact absurd (e ▸ hs) (A'.rdSh k' l hl)
    · exact absurd (e ▸ hx') (fam_sx A (.inr hl))
    · exact absurd hl (A'.ownRd k k' l (e ▸ ho))
    · rw [hr] at hw; cases hw
  · rcases (hu op hop).2 b hb with ⟨hs', _⟩ | ⟨hx', _⟩ | ho | ⟨hr, _⟩
    · exact absurd (e ▸ hs') hs
    · exact absurd (e ▸ hx') hx
    · exact absurd (e ▸ ho) (hl k k1 kj).1
    · exact absurd (e ▸ hr) (hl k k1 kj).2
  · rcases (hu op hop).2 b hb with ⟨hs', _⟩ | ⟨hx', _⟩ | ho | ⟨_, hr⟩
    · exact absurd (e ▸ hs') hs
    · exact absurd (e ▸ hx') hx
    · exact absurd (e ▸ ho) (hl k k1 kj)
    · rw [hr] at hw; cases hw
  · refine noRace_append (h.nr said) (fun op hop => (hu op hop).1) (fun i a ha op hop b hb hc => ?_)
    rcases (hu op hop).2 b hb with ⟨hs, hk, hn⟩ | ⟨hs, hk⟩ | ho | ⟨hr, hbw⟩
    · exact h.quiet.known hs hk (fun e => absurd e hn) i a ha hc
    · rcases h.mixed i a ha (by rw [hc.1]; exact hs) with e | e
      · rcases hc.2.2.2 with e' | e' | ⟨_, e', _⟩
        · rw [e] at e'; cases e'
        · rw [hk] at e'; cases e'
        · rw [e] at e'; cases e'
      · exact e k (.inr ⟨kc, kj⟩)
    · exact h.own k k1 kj b.loc ho i a ha hc.1
    · exact h.rd k k1 kj b.loc hr i a ha hc.1 (hc.2.2.1.resolve_right (by simp [hbw]))
  · rcases getElem?_append_cases hi with ⟨_, hi'⟩ | ⟨_, hiu⟩
    · exact h.gs i op hi'
    · rw [(hu op hiu).1]; exact kj
/-- operations that touch nothing -/
theorem CQ.appN (h : CQ L c t j) {k : Nat} (kj : k ≤ j) (hg : ∀ op ∈ u, op.g = k) (hu : ∀ op ∈ u, op.act.touch? = none) : CQ L c (t ++ u) j := by
  have no : ∀ op ∈ u, ∀ b, op.act.touch? = some b → False := fun op hop b hb => by rw [hu op hop] at hb; cases hb
  refine ⟨h.quiet.app fun op hop x hx hs => (no op hop x hx).elim, mixed_app h fun op hop x hx hs => (no op hop x hx).elim, fun k' k1' kj' l hl => (h.own k' k1' kj' l hl).app fun op hop b hb e => (no op hop b hb).elim, fun k' k1' kj' l hl => (h.rd k' k1' kj' l hl).app fun op hop b hb e hw => (no op hop b hb).elim,
    fun l hs hx hl => (h.free l hs hx hl).app fun op hop b hb e => (no op hop b hb).elim, fun l hs hx hl => (h.mine l hs hx hl).app fun op hop b hb e hw => (no op hop b hb).elim, fun said => noRace_append (h.nr said) hg (fun i a ha op hop b hb hc => (no op hop b hb).elim), fun i op hi => ?_⟩
  rcases getElem?_append_cases hi with ⟨_, hi'⟩ | ⟨_, hiu⟩
  · exact h.gs i op hi'
  · rw [hg op hiu]; exact kj
theorem CQ.fork (A : L.Apart) (h : CQ L c t j) (hcj : c ≤ j) {x y : MemOp} (hx : x.g = 0 ∧ x.act = .go (j + 1)) (hy : y.g = j + 1 ∧ y.act = .start) (h0 : Deaf t 0 = 0) : CQ L c (t ++ #[x, y]) (j + 1) := by
  have A' := A.fam c
  have hk : Deaf t (j + 1) = 0 := Deaf_absent fun i op hi e => by have := h.gs i op hi; omega
  have hnt : ∀ op ∈ #[x, y], ∀ b, op.act.touch? = some b → False := by
    intro op hop b hb
    simp only [List.mem_toArray, List.mem_cons, List.not_mem_nil, or_false] at hop
    rcases hop with rfl | rfl
    · rw [hx.2] at hb; cases hb
    · rw [hy.2] at hb; cases hb
  have old : ∀ {i : Nat} {a : Touch}, touchAt (t ++ #[x, y]) i = some a → touchAt t i = some a := by
    intro i a ha
    obtain ⟨z, hz, hza⟩ := touch_of ha
    rcases getElem?_append_cases hz with ⟨_, hz'⟩ | ⟨_, hzu⟩
    · rw [touchAt_of hz']; exact hza
    · exact (hnt z hzu a hza).elim
  refine ⟨h.quiet.app fun op hop b hb _ => (hnt op hop b hb).elim, fun i a ha hs => ?_, fun k k1 kj l hl => ?_, fun k k1 kj l hl => ?_,
    fun l hs hx hl => (h.free l hs hx fun k k1 kj => hl k k1 (by omega)).app fun op hop b hb _ => (hnt op hop b hb).elim, fun l hs hx hl => (h.mine l hs hx fun k k1 kj => hl k k1 (by omega)).app fun op hop b hb _ _ => (hnt op hop b hb).elim, fun said => ?_, fun i op hi => ?_⟩
  · refine (h.mixed i a (old ha) hs).imp id (fun e k hkk => ?_)
    by_cases ek : k = j + 1
    · subst ek
      exact fork_knows hx hy h0 hk (e 0 (.inl rfl))
    · exact (e k (by omega)).app _
  · rcases Nat.lt_or_ge j k with hlt | hge
    · obtain rfl : k = j + 1 := by omega
      exact fun i a ha e => fork_knows hx hy h0 hk (h.free l (A'.ownSh _ l hl) (fam_sx A (.inl hl)) (fun k' _ k'j => ⟨fun ho => by have := A'.own _ _ l ho hl; omega, A'.ownRd _ _ l hl⟩) i a (old ha) e)
    · exact (h.own k k1 hge l hl).app fun op hop b hb _ => (hnt op hop b hb).elim
  · rcases Nat.lt_or_ge j k with hlt | hge
    · obtain rfl : k = j + 1 := by omega
      exact fun i a ha e hw => fork_knows hx hy h0 hk (h.mine l (A'.rdSh _ l hl) (fam_sx A (.inr hl)) (fun k' _ _ ho => A'.ownRd _ _ l ho hl) i a (old ha) e hw)
    · exact (h.rd k k1 hge l hl).app fun op hop b hb _ _ => (hnt op hop b hb).elim
  · have e : t ++ #[x, y] = (t ++ #[x]) ++ #[y] := by apply Array.ext'; simp
    rw [e]
    refine noRace_append (g := j + 1) (noRace_append (g := 0) (h.nr said) (fun op hop => by simp at hop; rw [hop]; exact hx.1) (fun i a _ op hop b hb _ => (hnt op (by simp at hop ⊢; exact .inl hop) b hb).elim))
      (fun op hop => by simp at hop; rw [hop]; exact hy.1) (fun i a _ op hop b hb _ => (hnt op (by simp at hop ⊢; exact .inr hop) b hb).elim)
  · rcases getElem?_append_cases hi with ⟨_, hi'⟩ | ⟨_, hiu⟩
    · exact Nat.le_succ_of_le (h.gs i op hi')
    · simp only [List.mem_toArray, List.mem_cons, List.not_mem_nil, or_false] at hiu
      rcases hiu with rfl | rfl
      · rw [hx.1]; exact Nat.zero_le _
      · rw [hy.1]; exact Nat.le_refl _
end

section
variable {Lam : Type}
/-- has said its release -/
def past : Pos Lam → Bool
  | .k1 | .d1 | .d2 | .d3 | .d4 | .gone => true
  | _ => false

variable (L : Places) (c B Wg n : Nat)
structure TR (ps : Nat → Pos Lam) (j : Nat) (t : Trace) : Prop where
  st : started n j (ps 0)
  ct : CQ L c t (c + j)
  rel : ∀ i, 1 ≤ i → i ≤ j → past (ps i) = true → ∃ r, RelBy (stA Wg) t (c + i) r
  acq : ps 0 = .ret → ∃ q, t.act? q = some (.mark (.acquire (stA Wg))) ∧ t.g? q = some 0 ∧ t.heard q ∧ ∀ i, 1 ≤ i → i ≤ j → ∃ r, RelBy (stA Wg) t (c + i) r ∧ r < q
  ret : ps 0 = .ret → ∀ i, 1 ≤ i → i ≤ j → past (ps i) = true
  norel : NoRelease (stA Wg) t
  old : ∀ x a k, touchAt t x = some a → t.g? x = some k → 1 ≤ k → k ≤ c → a.loc.isMemory = true → Knows t 0 x ∨ (L.Sh a.loc ∧ a.kind = .atomic)
  over : ∀ x k, t.g? x = some k → 1 ≤ k → k ≤ c → t.counts x → ∃ y, t.g? y = some 0 ∧ HappensBefore t x y
  dk : ∀ x a k, touchAt t x = some a → t.g? x = some k → c < k → a.kind = .atomic → L.Sh a.loc ∨ t.counts x
  seen : ∀ op ∈ t, op.act.low B

/-- what a worker's step may list while it works -/
structure EvK (i : Nat) (e : Event) : Prop where
  ok : ∀ fn pos, Okk L c (c + i) { g := c + i, fn, pos, act := .ofEvent e }
  dis : e.loc ≠ .mark .disable
  en : e.loc ≠ .mark .enable
  rel : ∀ a, e.loc ≠ .mark (.release a)
  low : (MemAct.ofEvent e).low B
  at_ : ∀ x, (MemAct.ofEvent e).touch? = some x → x.kind = .atomic → L.Sh x.loc ∨ L.Sx x.loc
/-- behind its release: nothing -/
structure EvN (e : Event) : Prop where
  none : (MemAct.ofEvent e).touch? = none
  dis : e.loc ≠ .mark .disable
  en : e.loc ≠ .mark .enable
  rel : ∀ a, e.loc ≠ .mark (.release a)
  low : (MemAct.ofEvent e).low B
/-- what the first's step may list while j are started -/
structure EvM (j : Nat) (e : Event) : Prop where
  ok : ∀ fn pos, Okz L c (c + j) { g := 0, fn, pos, act := .ofEvent e }
  dis : e.loc ≠ .mark .disable
  en : e.loc ≠ .mark .enable
  rel : ∀ a, e.loc ≠ .mark (.release a)
  low : (MemAct.ofEvent e).low B
/-- accesses of the group's cells -/
def EvG (es : Array Event) : Prop := es = #[rd (stA Wg)] ∨ es = #[wr (stA Wg)] ∨ es = #[rd (stA Wg), wr (stA Wg)] ∨ es = semEvents (smA Wg)

variable {L c B Wg n}
variable {ps : Nat → Pos Lam} {j : Nat} {t : Trace}

theorem g_lt {u : Trace} {x k g : Nat} (hu : ∀ op ∈ u, op.g = g) (h : (t ++ u).g? x = some k) : (x < t.size ∧ t.g? x = some k) ∨ (t.size ≤ x ∧ k = g) := by
  obtain ⟨op, ho, rfl⟩ := Option.map_eq_some_iff.1 h
  rcases getElem?_append_cases ho with ⟨h1, h2⟩ | ⟨h1, h2⟩
  · exact .inl ⟨h1, by simp [Trace.g?, h2]⟩
  · exact .inr ⟨h1, hu op h2⟩
theorem touch_new {u : Trace} {x : Nat} {a : Touch} (h : touchAt (t ++ u) x = some a) (hx : t.size ≤ x) : ∃ op ∈ u, op.act.touch? = some a := by
  obtain ⟨op, ho, hoa⟩ := touch_of h
  rcases getElem?_append_cases ho with ⟨h1, _⟩ | ⟨_, h2⟩
  · omega
  · exact ⟨op, h2, hoa⟩
theorem counts_touch {x : Nat} (h : t.counts x) : ∃ a, touchAt t x = some a := by
  obtain ⟨a, h1, _⟩ := h
  exact ⟨a, h1⟩

/-- the trace grows by operations of one goroutine's, nobody's place turning -/
theorem TR.grow (h : TR L c B Wg n ps j t) {g : Nat} {u : Trace} (hu : ∀ op ∈ u, op.g = g) (hct : CQ L c (t ++ u) (c + j))
    (hrel : ∀ i r, 1 ≤ i → i ≤ j → g = c + i → past (ps i) = true → RelBy (stA Wg) t (c + i) r → RelBy (stA Wg) (t ++ u) (c + i) r)
    (hnr : ∀ op ∈ u, ∀ a, op.act ≠ .mark (.release a)) (hold : g ≠ 0 → g ≤ c → ∀ op ∈ u, op.act.touch? = none)
    (hdk : c < g → ∀ i, t.size ≤ i → ∀ a, touchAt (t ++ u) i = some a → a.kind = .atomic → L.Sh a.loc ∨ (t ++ u).counts i) (hlow : ∀ op ∈ u, op.act.low B) : TR L c B Wg n ps j (t ++ u) := by
  have stay : ∀ i r, 1 ≤ i → i ≤ j → past (ps i) = true → RelBy (stA Wg) t (c + i) r → RelBy (stA Wg) (t ++ u) (c + i) r := fun i r h1 h2 hp hr => by
    by_cases e : g = c + i
    · exact hrel i r h1 h2 e hp hr
    · exact hr.appOther hu e
  refine ⟨h.st, hct, fun i h1 h2 hp => ?_, fun hr => ?_, h.ret, h.norel.app (fun op hop => hnr op hop _), fun x a k ha hk h1 h2 hm => ?_, fun x k hk h1 h2 hc => ?_, fun x a k ha hk h1 hat => ?_, fun op hop => ?_⟩
  · obtain ⟨r, hr⟩ := h.rel i h1 h2 hp
    exact ⟨r, stay i r h1 h2 hp hr⟩
  · obtain ⟨q, q1, q2, q3, q4⟩ := h.acq hr
    have hq := lt_of_act? q1
    refine ⟨q, by rw [act?_old hq]; exact q1, by rw [g?_old hq]; exact q2, (heard_old hq).2 q3, fun i h1 h2 => ?_⟩
    obtain ⟨r, hr', hrq⟩ := q4 i h1 h2
    exact ⟨r, stay i r h1 h2 (h.ret hr i h1 h2) hr', hrq⟩
  · rcases g_lt hu hk with ⟨hx, hk'⟩ | ⟨hx, rfl⟩
    · rw [touchAt_old hx] at ha
      exact (h.old x a k ha hk' h1 h2 hm).imp (fun e => e.app u) id
    · obtain ⟨op, hop, hoa⟩ := touch_new ha hx
      rw [hold (by omega) h2 op hop] at hoa; cases hoa
  · rcases g_lt hu hk with ⟨hx, hk'⟩ | ⟨hx, rfl⟩
    · obtain ⟨y, y1, y2⟩ := h.over x k hk' h1 h2 ((counts_old hx).1 hc)
      have hy : y < t.size := by
        obtain ⟨op, ho, _⟩ := Option.map_eq_some_iff.1 y1
        exact lt_size_of_getElem? ho
      exact ⟨y, by rw [g?_old hy]; exact y1, hb_app u y2⟩
    · obtain ⟨a, ha⟩ := counts_touch hc
      obtain ⟨op, hop, hoa⟩ := touch_new ha hx
      rw [hold (by omega) h2 op hop] at hoa; cases hoa
  · rcases g_lt hu hk with ⟨hx, hk'⟩ | ⟨hx, rfl⟩
    · rw [touchAt_old hx] at ha
      exact (h.dk x a k ha hk' h1 hat).imp id (fun e => (counts_old hx).2 e)
    · exact hdk h1 x hx a ha hat
  · rcases Array.mem_append.1 hop with h1 | h1
    · exact h.seen op h1
    · exact hlow op h1
end
end Go.Proofs.Ytboiolnnhmlieaa.Gang
