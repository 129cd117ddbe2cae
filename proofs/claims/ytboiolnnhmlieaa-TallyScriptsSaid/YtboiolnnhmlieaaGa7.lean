
/-
  A WaitGroup's team in the machine: what is asked of each member's walk, and that it keeps to the rules.
  Conditions: stated lemma by lemma.
-/
import Derived.Test.YtboiolnnhmlieaaGa6
namespace Go.Proofs.Ytboiolnnhmlieaa.Gang
open Go.Conc Go.ConcN
open Go.ConcR (wgBlock WgAt stA smA rd wr KK)
set_option linter.unusedVariables false
set_option linter.unusedSimpArgs false

/-- a job for a team -/
structure Job (P : Program) (X Lam : Type) where
  B : Body X Lam
  L : Places
  c : Nat
  Bd : Nat
  Wg : Nat
  ty : TypeId
  Shb : Nat → Prop
  Lw : Nat → Nat
  cx : X → World → Prop
  okB : Lam → X → Prop
  sit : Nat → Pos Lam → Goroutine → World → Prop
  last : X → Goroutine → World → Prop

structure SameOut (w w' : World) : Prop where
  tape : w'.tape = w.tape
  os : w'.os = w.os
  output : w'.output = w.output
theorem SameOut.refl (w : World) : SameOut w w := ⟨rfl, rfl, rfl⟩
theorem SameOut.trans {a b c : World} (h : SameOut a b) (k : SameOut b c) : SameOut a c := ⟨k.tape.trans h.tape, k.os.trans h.os, k.output.trans h.output⟩
theorem SameOut.at (w : World) (d : Nat) : SameOut w (w.at d) := ⟨rfl, rfl, rfl⟩

section
variable {X Lam : Type}
/-- what an action leans on -/
def okP (n : Nat) (okB : Lam → X → Prop) (p : Pos Lam) (s : St X) : Prop :=
  match p with
  | .body l => okB l s.x
  | .d1 => 1 ≤ s.v ∧ s.v ≤ n ∧ s.wt ≤ 1 ∧ s.sm = 0
  | .d2 | .d3 => s.v = 0 ∧ s.wt = 1 ∧ s.sm = 0
  | .d4 => s.v = 0 ∧ s.wt = 0 ∧ s.sm = 0
  | .a1 _ => s.v < n ∧ s.wt = 0 ∧ s.sm = 0
  | .w1 => s.v ≤ n ∧ s.wt = 0 ∧ s.sm = 0
  | .w2 u => s.v ≤ u ∧ 1 ≤ u ∧ u ≤ n ∧ s.wt = 0 ∧ s.sm = 0
  | .w3 => (s.sm = 0 ∧ s.v ≤ n ∧ s.wt ≤ 1) ∨ (s.sm = 1 ∧ s.v = 0 ∧ s.wt = 0)
  | .w4 => s.v = 0 ∧ s.wt = 0 ∧ s.sm = 0
  | _ => True
def Pos.num (n : Nat) : Pos Lam → Nat
  | .kdS k | .a1 k | .keS k | .goS k => k
  | _ => n
theorem started_num {n j : Nat} {p : Pos Lam} (h : started n j p) : p.num n = j := by
  cases p <;> simp_all [started, Pos.num]

variable {P : Program} (J : Job P X Lam)
def liveAt (ty : TypeId) (Wg : Nat) (w : World) : Prop := ∃ st sm, WgAt ty Wg w st sm
/-- what a worker suffers -/
structure SufferK (live : World → Prop) (Shb : Nat → Prop) (lw : Nat) (w w' : World) : Prop where
  out : SameOut w w'
  size : w.heap.size ≤ w'.heap.size
  low : ∀ b, b < lw → ¬ Shb b → w'.heap[b]? = w.heap[b]?
  live : live w → live w'
/-- what the first suffers -/
structure Suffer0 (live : World → Prop) (Shb : Nat → Prop) (w w' : World) : Prop where
  out : SameOut w w'
  size : w'.heap.size = w.heap.size
  low : ∀ b, ¬ Shb b → w'.heap[b]? = w.heap[b]?
  live : live w → live w'
/-- what the first does while it walks -/
structure Did0 (lw : Nat) (w w' : World) : Prop where
  out : SameOut w w'
  size : w.heap.size ≤ w'.heap.size
  low : ∀ b, b < lw → w'.heap[b]? = w.heap[b]?
abbrev Job.RK (i : Nat) (w w' : World) : Prop := SufferK (liveAt J.ty J.Wg) J.Shb (J.Lw i) w w'
abbrev Job.R0 (w w' : World) : Prop := Suffer0 (liveAt J.ty J.Wg) J.Shb w w'
abbrev Job.D0 (k : Nat) (w w' : World) : Prop := Did0 (J.Lw k) w w'
structure DW (w w' : World) : Prop where
  out : SameOut w w'
  heap : w'.heap = w.heap
def Job.rely (i : Nat) (w w' : World) : Prop := if i = 0 then J.R0 w w' else J.RK i w w'
def Job.step (i : Nat) (p : Pos Lam) (w w' : World) (es : Array Event) : Prop :=
  if i = 0 then J.D0 (p.num J.B.n) w w' ∧ ∀ e ∈ es, EvM J.L J.c J.Bd (p.num J.B.n) e else DW w w' ∧ if past p then ∀ e ∈ es, EvN J.Bd e else ∀ e ∈ es, EvK J.L J.c J.Bd i e
def Job.ev (i : Nat) (p _p' : Pos Lam) (es : Array Event) : Prop :=
  match p with
  | .body _ => ∀ e ∈ es, EvK J.L J.c J.Bd i e
  | .rel => es = #[Go.ConcR.mk (.releaseMerge (stA J.Wg))]
  | .k1 | .kdS _ | .kd => es = #[Go.ConcR.mk .disable]
  | .keS _ | .ke => es = #[Go.ConcR.mk .enable]
  | .acq => es = #[Go.ConcR.mk (.acquire (stA J.Wg))]
  | _ => EvG J.Wg es
def Job.conc (s : St X) (w : World) : Prop := WgAt J.ty J.Wg w ((s.v : Int) * KK + s.wt) s.sm ∧ J.cx s.x w
def Job.team : Team P (St X) (Pos Lam) where
  next _ p s := J.B.next p s
  quit p := p.quit
  deaf p := p.deaf
  kid p := p.kid
  num p := p.num J.B.n
  wakes p _ := p.wakes
  ok _ p s := okP J.B.n J.okB p s
  inv := Plan J.B
  meas := J.B.meas
  conc := J.conc
  rely := J.rely
  step := J.step
  ev := J.ev
  sit := J.sit
  last s g w := J.last s.x g w
  tr := TR J.L J.c J.Bd J.Wg J.B.n

/-- what is left to show of a job -/
structure Job.Fit : Prop where
  fine : J.B.Fine
  apart : J.L.Apart
  shWg : ∀ a : Addr, a.block = J.Wg → J.L.Sh (.cell a)
  wgB : J.Wg < J.Bd
  shb : J.Shb J.Wg
  mono : ∀ i k, i ≤ k → J.Lw i ≤ J.Lw k
  low : ∀ b, J.Shb b → b < J.Lw 0
  cx : ∀ x w w', J.cx x w → (∀ b, J.Shb b → w'.heap[b]? = w.heap[b]?) → J.cx x w'
  okB : ∀ x f i l, J.B.J x f → f i = some l → J.okB l x
  sit : ∀ i p g w, J.sit i p g w → p.quit = false → ∃ n, Goes P (i == 0) (J.rely i) (J.step i p) (Stop J.team i p) n g w
  sitQ : ∀ i p g w, J.sit i p g w → p.quit = true → ∃ n, QuitsD P n 1 g

variable {J}
theorem Plan.ok {okB : Lam → X → Prop} {B : Body X Lam} {s : St X} {ps : Nat → Pos Lam} {j i : Nat} (hok : ∀ x f i l, B.J x f → f i = some l → okB l x) (h : Plan B s ps j) (hi : i ≤ j) (hq : (ps i).quit = false) : okP B.n okB (ps i) s := by
  have hc := h.c
  have htl := tot_le h.st
  have hjn := started_le h.st
  have hcnt := le_tot (ps := ps) hi
  rcases Nat.eq_zero_or_pos i with rfl | hpos
  · have hst := h.st
    cases h.md with
    | opn m1 m2 m3 m4 m5 =>
      cases hp : ps 0 with
      | a1 k => rw [hp] at hst hc; simp only [started] at hst; simp only [pend] at hc; exact ⟨by omega, m2, m3⟩
      | w1 => rw [hp] at hst hc; simp only [pend] at hc; exact ⟨by omega, m2, m3⟩
      | w2 u => rw [hp] at hst; have hu := m5 u hp; exact ⟨hu.1, hu.2, hst.2, m2, m3⟩
      | body l => rw [hp] at m1; exact m1.elim
      | _ => first | trivial | (rw [hp] at m1; exact m1.elim)
    | reg m1 m2 m3 m4 m5 => rw [m1] at hc ⊢; simp only [pend] at hc; exact .inl ⟨m3, by omega, by omega⟩
    | last L m1 m2 m3 m4 m5 m6 m7 => rw [m1]; exact .inl ⟨m5, by omega, by rcases m4 with ⟨_, h⟩ | ⟨_, h⟩ | ⟨_, h⟩ <;> omega⟩
    | sema m1 m2 m3 m4 m5 => rw [m1]; exact .inr ⟨m3, m4, m2⟩
    | fin m1 m2 m3 m4 m5 =>
      cases hp : ps 0 with
      | w4 => exact ⟨m4, m2, m3⟩
      | _ => first | trivial | (rw [hp] at m1; exact m1.elim)
  · have hb : ∀ l, ps i = .body l → okB l s.x := fun l hp => hok s.x (B.cfg ps j) i l h.J (by unfold Body.cfg; rw [if_neg (by omega), if_pos hi, hp]; rfl)
    have hv : ∀ q : Nat, cnt (ps i) = 1 → s.v = tot j ps + pend (ps 0) → 1 ≤ s.v := fun q h1 h2 => by omega
    cases h.md with
    | opn m1 m2 m3 m4 m5 =>
      have hw := m4 i hpos hi
      cases hp : ps i with
      | body l => exact hb l hp
      | d1 => rw [hp] at hcnt; simp only [cnt] at hcnt; exact ⟨by omega, by have := pend_le h.st; omega, by omega, m3⟩
      | rel => trivial
      | k1 => trivial
      | gone => trivial
      | _ => rw [hp] at hw; exact hw.elim
    | reg m1 m2 m3 m4 m5 =>
      have hw := m5 i hpos hi
      rw [m1] at hc
      simp only [pend] at hc
      cases hp : ps i with
      | body l => exact hb l hp
      | d1 => exact ⟨m4, by omega, by omega, m3⟩
      | rel => trivial
      | k1 => trivial
      | gone => trivial
      | _ => rw [hp] at hw; exact hw.elim
    | last L m1 m2 m3 m4 m5 m6 m7 =>
      by_cases e : i = L
      · subst e
        rcases m4 with ⟨h1, h2⟩ | ⟨h1, h2⟩ | ⟨h1, h2⟩ <;> rw [h1] <;> exact ⟨m6, h2, m5⟩
      · rw [m7 i hpos hi e] at hq; cases hq
    | sema m1 m2 m3 m4 m5 => rw [m5 i hpos hi] at hq; cases hq
    | fin m1 m2 m3 m4 m5 => rw [m5 i hpos hi] at hq; cases hq

theorem Job.step_quiet {i : Nat} {p : Pos Lam} {w w' : World} {es : Array Event} (h : J.step i p w w' es) : deafBehind p.deaf es = p.deaf := by
  refine deafBehind_still (fun e he => ?_) _
  unfold Job.step at h
  split at h
  · exact ⟨(h.2 e he).dis, (h.2 e he).en⟩
  · have h2 := h.2
    split at h2
    · exact ⟨(h2 e he).dis, (h2 e he).en⟩
    · exact ⟨(h2 e he).dis, (h2 e he).en⟩
theorem conc_live {s : St X} {w : World} (h : J.conc s w) : liveAt J.ty J.Wg w := ⟨_, _, h.1⟩

theorem Job.Fit.rules (F : J.Fit) : Rules J.team where
  trans i a b c h k := by
    show J.rely i a c
    have h : J.rely i a b := h
    have k : J.rely i b c := k
    unfold Job.rely at h k ⊢
    split
    · next e =>
      rw [if_pos e] at h k
      exact ⟨h.out.trans k.out, k.size.trans h.size, fun b hb => (k.low b hb).trans (h.low b hb), fun hl => k.live (h.live hl)⟩
    · next e =>
      rw [if_neg e] at h k
      exact ⟨h.out.trans k.out, Nat.le_trans h.size k.size, fun b hb hs => (k.low b hb hs).trans (h.low b hb hs), fun hl => k.live (h.live hl)⟩
  draws i w d := by
    show J.rely i w (w.at d)
    unfold Job.rely
    split
    · exact ⟨.at w d, rfl, (fun b _ => (rfl : (w.at d).heap[b]? = w.heap[b]?)), id⟩
    · exact ⟨.at w d, Nat.le_refl _, (fun b _ _ => (rfl : (w.at d).heap[b]? = w.heap[b]?)), id⟩
  concAt s w d h := by
    have h : J.conc s w := h
    exact ⟨h.1, F.cx s.x w (w.at d) h.2 (fun b _ => (rfl : (w.at d).heap[b]? = w.heap[b]?))⟩
  stepR i p w w' es h k hki hk := by
    have h : J.step i p w w' es := h
    show J.rely k w w'
    unfold Job.step at h
    unfold Job.rely
    split at h
    · next e =>
      subst e
      rw [if_neg hki]
      have hk : k ≤ p.num J.B.n := hk rfl
      have hlow : ∀ b, b < J.Lw k → w'.heap[b]? = w.heap[b]? := fun b hb => h.1.low b (Nat.lt_of_lt_of_le hb (F.mono _ _ hk))
      exact ⟨h.1.out, h.1.size, fun b hb _ => hlow b hb, fun ⟨st, sm, hl⟩ => ⟨st, sm, (hlow J.Wg (Nat.lt_of_lt_of_le (F.low _ F.shb) (F.mono _ _ (Nat.zero_le _)))).trans hl⟩⟩
    · have hh : ∀ b : Nat, w'.heap[b]? = w.heap[b]? := fun b => by rw [h.1.heap]
      split
      · exact ⟨h.1.out, by rw [h.1.heap], fun b _ => hh b, fun ⟨st, sm, hl⟩ => ⟨st, sm, (hh J.Wg).trans hl⟩⟩
      · exact ⟨h.1.out, by rw [h.1.heap]; exact Nat.le_refl _, fun b _ _ => hh b, fun ⟨st, sm, hl⟩ => ⟨st, sm, (hh J.Wg).trans hl⟩⟩
  num s ps j h := by
    have h : Plan J.B s ps j := h
    exact Nat.le_of_eq (started_num h.st).symm
  stepC i p w w' es s h hc := by
    have h : J.step i p w w' es := h
    have hc : J.conc s w := hc
    have hb : ∀ b, J.Shb b → w'.heap[b]? = w.heap[b]? := fun b hs => by
      unfold Job.step at h
      split at h
      · exact h.1.low b (Nat.lt_of_lt_of_le (F.low b hs) (F.mono _ _ (Nat.zero_le _)))
      · rw [h.1.heap]
    exact ⟨(hb J.Wg F.shb).trans hc.1, F.cx _ _ _ hc.2 hb⟩
  sit i p g w h hq := F.sit i p g w h hq
  sitQ i p g w h hq := by
    obtain ⟨n, hn⟩ := F.sitQ i p g w h hq
    refine ⟨n, ?_⟩
    have hq : p.quit = true := hq
    have e : J.team.deaf p = 1 := by cases p <;> first | rfl | cases hq
    rw [e]; exact hn
  ok s ps j i h hi hq := Plan.ok F.okB h hi hq
  main s ps j h := (main_cnt (Plan.st h)).2.2
  kid s ps j i h hi h0 hq := Plan.kid_acts h (by omega) hi hq
  act s ps j i s' p' h hi hq hn := Plan.act h F.fine hi hq hn
  wake s ps j i s' p' h hi h0 hq hn hb hb' := Plan.wake h (by omega) hi hq hn hb hb'
  spawn s ps j s' p' q h hn := (Plan.spawn h hn).1
  live s ps j h hb := Plan.live h hb
  ends s ps j h hf i h1 h2 := by rw [(Plan.ends h hf).2.2.2.2.2.1 i h1 h2]; rfl

theorem past_same {p q : Pos Lam} (h : past q = past p) {ps : Nat → Pos Lam} {i : Nat} (hp : ps i = p) : past q = past (ps i) := by rw [hp]; exact h
/-- a worker's place turns, that has said its release, or has not -/
theorem TR.turn {L : Places} {c B Wg n : Nat} {ps : Nat → Pos Lam} {j : Nat} {t : Trace} (h : TR L c B Wg n ps j t) {i : Nat} (h1 : 1 ≤ i) {q : Pos Lam} (hp : past q = past (ps i)) : TR L c B Wg n (upd ps i q) j t := by
  have e0 : upd ps i q 0 = ps 0 := upd_ne _ _ (by omega)
  exact h.move (by rw [e0]; exact h.st) (past_upd hp) (fun e => by rw [← e0]; exact e)
/-- the first's place turns, and it has not ended -/
theorem TR.turn0 {L : Places} {c B Wg n : Nat} {ps : Nat → Pos Lam} {j : Nat} {t : Trace} (h : TR L c B Wg n ps j t) {q : Pos Lam} (hs : started n j q) (hq : q ≠ .ret) : TR L c B Wg n (upd ps 0 q) j t :=
  h.move (by rw [upd_same]; exact hs) (fun i h1 h2 => by rw [upd_ne _ _ (by omega)]) (fun e => absurd ((upd_same ps 0 q).symm.trans e) hq)

theorem Job.Fit.traced (F : J.Fit) : Traced J.team J.c where
  walk s ps j t i w w' es fn pos hI ht hi hq hd hs := by
    have ht : TR J.L J.c J.Bd J.Wg J.B.n ps j t := ht
    have hs : J.step i (ps i) w w' es := hs
    refine ⟨?_, Job.step_quiet hs⟩
    show TR J.L J.c J.Bd J.Wg J.B.n ps j _
    unfold Job.step at hs
    split at hs
    · next e =>
      subst e
      have hev := hs.2
      rw [started_num ht.st] at hev
      exact ht.first F.apart hev
    · next e =>
      rw [ix_pos e]
      have hev := hs.2
      split at hev
      · exact ht.none F.apart (by omega) (by omega) (fun e he => (hev e he).none) (fun e he => (hev e he).rel) (fun e he => (hev e he).low)
      · next hp =>
        have hd : Deaf t (ix J.c i) = (ps i).deaf := hd
        have hI : Plan J.B s ps j := hI
        have hp : past (ps i) = false := by simpa using hp
        have h0 : (ps i).deaf = 0 := by
          rcases hI.kid_pos (by omega) hi with hw | hw | hw | hw
          · cases hpp : ps i <;> rw [hpp] at hw hp <;> first | rfl | exact hw.elim | cases hp
          · rw [hw] at hp; cases hp
          · rw [hw] at hp; cases hp
          · rw [hw] at hp; cases hp
        rw [ix_pos e, h0] at hd
        exact ht.kid F.apart (by omega) hi hp hd hev
  act s ps j t i s' p' es fn pos hI ht hi hq hn hd hev := by
    have ht : TR J.L J.c J.Bd J.Wg J.B.n ps j t := ht
    have hI : Plan J.B s ps j := hI
    have hev : J.ev i (ps i) p' es := hev
    have hn : J.B.next (ps i) s = .act s' p' := hn
    have hd : Deaf t (ix J.c i) = (ps i).deaf := hd
    have hq : (ps i).quit = false := hq
    show TR J.L J.c J.Bd J.Wg J.B.n (upd ps i p') j _ ∧ deafBehind (ps i).deaf es = p'.deaf
    have hplan := Plan.act hI F.fine hi hq hn
    have hst' := hplan.1.st
    rcases Nat.eq_zero_or_pos i with rfl | hpos
    · rw [upd_same] at hst'
      rw [ix_zero] at hd ⊢
      cases hp : ps 0 with
      | kdS k =>
        rw [hp] at hn hev; injection hn with hs hpp; subst hs; subst hpp
        have hev : es = #[Go.ConcR.mk .disable] := hev
        subst hev
        exact ⟨(ht.word0 F.apart .disable (fun _ e => by cases e) (fun _ e => by cases e) (fun _ e => by cases e) trivial).turn0 hst' (by simp), by simp [deafBehind, Go.ConcR.mk, Pos.deaf]⟩
      | keS k =>
        rw [hp] at hn hev; injection hn with hs hpp; subst hs; subst hpp
        have hev : es = #[Go.ConcR.mk .enable] := hev
        subst hev
        exact ⟨(ht.word0 F.apart .enable (fun _ e => by cases e) (fun _ e => by cases e) (fun _ e => by cases e) trivial).turn0 hst' (by simp), by simp [deafBehind, Go.ConcR.mk, Pos.deaf]⟩
      | kd =>
        rw [hp] at hn hev; injection hn with hs hpp; subst hs; subst hpp
        have hev : es = #[Go.ConcR.mk .disable] := hev
        subst hev
        exact ⟨(ht.word0 F.apart .disable (fun _ e => by cases e) (fun _ e => by cases e) (fun _ e => by cases e) trivial).turn0 hst' (by simp), by simp [deafBehind, Go.ConcR.mk, Pos.deaf]⟩
      | ke =>
        rw [hp] at hn hev; injection hn with hs hpp; subst hs; subst hpp
        have hev : es = #[Go.ConcR.mk .enable] := hev
        subst hev
        exact ⟨(ht.word0 F.apart .enable (fun _ e => by cases e) (fun _ e => by cases e) (fun _ e => by cases e) trivial).turn0 hst' (by simp), by simp [deafBehind, Go.ConcR.mk, Pos.deaf]⟩
      | acq =>
        rw [hp] at hn hev hd; injection hn with hs hpp; subst hs; subst hpp
        have hev : es = #[Go.ConcR.mk (.acquire (stA J.Wg))] := hev
        subst hev
        refine ⟨ht.acquire F.apart F.wgB hp hd (fun i h1 h2 => ?_), by simp [deafBehind, Go.ConcR.mk, Pos.deaf]⟩
        cases hI.md with
        | opn m1 => rw [hp] at m1; exact m1.elim
        | reg m1 => rw [hp] at m1; cases m1
        | last _ m1 => rw [hp] at m1; cases m1
        | sema m1 => rw [hp] at m1; cases m1
        | fin _ _ _ _ m5 => rw [m5 i h1 h2]; rfl
      | a1 k =>
        rw [hp] at hn hev; injection hn with hs hpp; subst hs; subst hpp
        exact ⟨(ht.group0 F.apart F.shWg F.wgB hev).turn0 hst' (by simp), evG_deaf hev _⟩
      | w1 =>
        rw [hp] at hn hev; injection hn with hs hpp; subst hs; subst hpp
        exact ⟨(ht.group0 F.apart F.shWg F.wgB hev).turn0 hst' (by split <;> simp), by rw [evG_deaf hev]; split <;> rfl⟩
      | w2 u =>
        rw [hp] at hn hev
        simp only [Body.next] at hn
        split at hn
        · injection hn with hs hpp; subst hs; subst hpp
          exact ⟨(ht.group0 F.apart F.shWg F.wgB hev).turn0 hst' (by simp), evG_deaf hev _⟩
        · injection hn with hs hpp; subst hs; subst hpp
          exact ⟨(ht.group0 F.apart F.shWg F.wgB hev).turn0 hst' (by simp), evG_deaf hev _⟩
      | w3 =>
        rw [hp] at hn hev
        simp only [Body.next] at hn
        split at hn
        · cases hn
        · injection hn with hs hpp; subst hs; subst hpp
          exact ⟨(ht.group0 F.apart F.shWg F.wgB hev).turn0 hst' (by simp), evG_deaf hev _⟩
      | w4 =>
        rw [hp] at hn hev; injection hn with hs hpp; subst hs; subst hpp
        exact ⟨(ht.group0 F.apart F.shWg F.wgB hev).turn0 hst' (by simp), evG_deaf hev _⟩
      | goS k => rw [hp] at hn; cases hn
      | ret => rw [hp] at hn; cases hn
      | _ => have := ht.st; rw [hp] at this; exact this.elim
    · rw [ix_pos (by omega)] at hd ⊢
      rcases hI.kid_pos hpos hi with hw | hp | hp | hp
      · cases hp : ps i with
        | body l =>
          rw [hp] at hn hev; injection hn with hs hpp; subst hs; subst hpp
          have hev : ∀ e ∈ es, EvK J.L J.c J.Bd i e := hev
          have hk : ∀ q : Pos Lam, q = J.B.enter (J.B.stp l s.x).2 → past q = false ∧ q.deaf = 0 := fun q e => by rw [e]; unfold Body.enter; split <;> exact ⟨rfl, rfl⟩
          refine ⟨(ht.kid F.apart hpos hi (by rw [hp]; rfl) (by rw [hd, hp]; rfl) hev).turn hpos (by rw [hp, (hk _ rfl).1]; rfl), ?_⟩
          rw [(hk _ rfl).2]
          exact deafBehind_still (fun e he => ⟨(hev e he).dis, (hev e he).en⟩) _
        | rel =>
          rw [hp] at hn hev hd; injection hn with hs hpp; subst hs; subst hpp
          have hev : es = #[Go.ConcR.mk (.releaseMerge (stA J.Wg))] := hev
          subst hev
          exact ⟨ht.release F.apart F.wgB hpos hi hp hd, by simp [deafBehind, Go.ConcR.mk, Pos.deaf]⟩
        | k1 =>
          rw [hp] at hn hev; injection hn with hs hpp; subst hs; subst hpp
          have hev : es = #[Go.ConcR.mk .disable] := hev
          subst hev
          have e1 : ∀ e ∈ #[Go.ConcR.mk .disable], e = Go.ConcR.mk .disable := fun e he => by simpa using he
          exact ⟨(ht.none F.apart (by omega) (by omega) (fun e he => by rw [e1 e he]; rfl) (fun e he a hl => by rw [e1 e he] at hl; cases hl) (fun e he => by rw [e1 e he]; trivial)).turn hpos (by rw [hp]; rfl), by simp [deafBehind, Go.ConcR.mk, Pos.deaf]⟩
        | d1 =>
          rw [hp] at hn hev hd; injection hn with hs hpp; subst hs; subst hpp
          exact ⟨(ht.group F.apart F.shWg F.wgB hpos hi (by rw [hd]; exact Nat.le_refl _) hev).turn hpos (by rw [hp]; split <;> rfl), by rw [evG_deaf hev]; split <;> rfl⟩
        | gone => rw [hp] at hq; cases hq
        | _ => rw [hp] at hw; exact hw.elim
      · rw [hp] at hn hev hd; injection hn with hs hpp; subst hs; subst hpp
        rw [hp]
        exact ⟨(ht.group F.apart F.shWg F.wgB hpos hi (by rw [hd]; exact Nat.le_refl _) hev).turn hpos (by rw [hp]; rfl), evG_deaf hev _⟩
      · rw [hp] at hn hev hd; injection hn with hs hpp; subst hs; subst hpp
        rw [hp]
        exact ⟨(ht.group F.apart F.shWg F.wgB hpos hi (by rw [hd]; exact Nat.le_refl _) hev).turn hpos (by rw [hp]; rfl), evG_deaf hev _⟩
      · rw [hp] at hn hev hd; injection hn with hs hpp; subst hs; subst hpp
        rw [hp]
        exact ⟨(ht.group F.apart F.shWg F.wgB hpos hi (by rw [hd]; exact Nat.le_refl _) hev).turn hpos (by rw [hp]; rfl), evG_deaf hev _⟩
  mute ps j t x es fn pos ht h0 hx hne hm := by
    have ht : TR J.L J.c J.Bd J.Wg J.B.n ps j t := ht
    exact ht.none F.apart (by omega) hx (fun e he => touch_mute (hm e he)) (fun e he a hl => by have := hm e he; obtain ⟨loc, wr, sy⟩ := e; simp only at hl; subst hl; cases this) (fun e he => low_mute (hm e he) _)
  spawn s ps j t s' p' q fn fn' pos hI ht hn h0 hk := by
    have ht : TR J.L J.c J.Bd J.Wg J.B.n ps j t := ht
    obtain ⟨⟨h1, _, h3, h4, _⟩, h5, h6⟩ := Plan.spawn hI hn
    have hst := h1.st
    rw [upd_ne _ _ (by omega), upd_same] at hst
    refine ⟨?_, h5, h6⟩
    have hgs : ps 0 = ps 0 := rfl
    have hd0 : (ps 0).deaf = 0 ∧ p' ≠ .ret ∧ past q = false := by
      have hI : Plan J.B s ps j := hI
      have hn : J.B.next (ps 0) s = .spawn s' p' q := hn
      cases hp : ps 0 with
      | goS k =>
        rw [hp] at hn
        injection hn with hs hpp hqq
        subst hs; subst hpp; subst hqq
        exact ⟨rfl, by split <;> simp, by unfold Body.enter; split <;> rfl⟩
      | w2 u => rw [hp] at hn; simp only [Body.next] at hn; split at hn <;> cases hn
      | w3 => rw [hp] at hn; simp only [Body.next] at hn; split at hn <;> cases hn
      | _ => rw [hp] at hn; cases hn
    have h0 : Deaf t 0 = (ps 0).deaf := h0
    exact ht.fork F.apart hst hd0.2.2 hd0.2.1 (by rw [h0]; exact hd0.1)
end
end Go.Proofs.Ytboiolnnhmlieaa.Gang
