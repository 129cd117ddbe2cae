
/-
  A phase: the first member alone but for leavers; its team; the first alone again but for more leavers.
  Conditions: stated lemma by lemma.
-/
import Derived.Test.YtboiolnnhmlieaaGa7
namespace Go.Proofs.Ytboiolnnhmlieaa.Gang
open Go.Conc Go.ConcN
open Go.ConcR (wgBlock WgAt stA smA rd wr KK)
set_option linter.unusedVariables false
set_option linter.unusedSimpArgs false

/-- what is held of the trace between two phases -/
structure Calm (Sh : Loc → Prop) (B c : Nat) (t : Trace) : Prop where
  past : Past Sh B t
  quiet : Quiet Sh t
  gs : ∀ (i : Nat) (op : MemOp), t[i]? = some op → op.g ≤ c
  mem : ∀ l : Loc, l.isMemory = false → Sh l
/-- goroutine 0 alone but for leavers -/
structure Alone (P : Program) (Sh : Loc → Prop) (B c : Nat) (gs : Array Goroutine) (a : Goroutine) (t : Trace) : Prop where
  size : gs.size = c + 1
  main : gs[0]? = some a
  lv : ∃ q, Leavers P t gs q
  calm : Calm Sh B c t

section
variable {Lam : Type} {L : Places} {c B B0 Wg n : Nat} {t : Trace} {Sh0 : Loc → Prop}
theorem low_touch {x : Nat} {a : Touch} {ad : Addr} (h : ∀ op ∈ t, op.act.low B0) (ha : touchAt t x = some a) (hl : a.loc = .cell ad) : ad.block < B0 := by
  obtain ⟨op, ho, hoa⟩ := touch_of ha
  have h1 := h op (Array.mem_of_getElem? ho)
  obtain ⟨g, fn, pos, act⟩ := op
  cases act with
  | access e =>
    simp only [MemAct.touch?, Option.some.injEq] at hoa
    subst hoa
    simp only at hl
    simp only [MemAct.low, hl, Loc.low] at h1
    exact h1
  | mark m =>
    cases m with
    | read b => simp only [MemAct.touch?, Option.some.injEq] at hoa; subst hoa; simp only [Loc.cell.injEq] at hl; subst hl; exact h1
    | write b => simp only [MemAct.touch?, Option.some.injEq] at hoa; subst hoa; simp only [Loc.cell.injEq] at hl; subst hl; exact h1
    | _ => simp only [MemAct.touch?] at hoa; cases hoa
  | _ => simp only [MemAct.touch?] at hoa; cases hoa

theorem Calm.start (A : L.Apart) (h : Calm Sh0 B0 c t) (h1 : ∀ l, L.Sh l → Sh0 l ∨ ∃ a, l = .cell a ∧ B0 ≤ a.block) (h2 : ∀ l, Sh0 l → L.Sh l) (hW : B0 ≤ Wg) (hB : B0 ≤ B) (hn : 1 ≤ n) : TR L c B Wg n (fun _ => (.kdS 0 : Pos Lam)) 0 t := by
  have hno : ∀ F : Nat → Loc → Prop, ∀ k, k ≤ c → ∀ l, ¬ fam c F k l := fun F k hk l ⟨i, h1, e, _⟩ => by omega
  have hperm : ∀ l, ¬ L.Sh l → Perm t 0 l := fun l hl i a ha he => by
    have hm : a.loc.isMemory = true := by
      cases hb : a.loc.isMemory with
      | true => rfl
      | false => exact absurd (h2 _ (h.mem _ hb)) (by rw [he]; exact hl)
    rcases h.past.known i a ha hm with k | k
    · exact k
    · exact absurd (h2 _ k.1) (by rw [he]; exact hl)
  refine ⟨⟨rfl, hn⟩, ⟨fun i op x hi hx hs => ?_, fun i x hx hs => .inr fun k hk => by rw [show k = 0 by omega]; exact hperm _ (A.sxSh _ hs) i x hx rfl, fun k _ hk l hl => absurd hl (hno _ k (by omega) l), fun k _ hk l hl => absurd hl (hno _ k (by omega) l), fun l hl _ _ => hperm l hl, fun l hl _ _ => .of (hperm l hl), h.past.clean, fun i op hi => h.gs i op hi⟩,
    (fun i h1 h2 => by omega), (fun e => by cases e), (fun e => by cases e), fun i hi => ?_, fun x a k ha hk k1 k2 hm => ?_, fun x k hk k1 k2 hc => ?_, fun x a k ha hk k1 hat => ?_, fun op hop => MemAct.low_mono hB (h.past.seen op hop)⟩
  · rcases h1 _ hs with k | ⟨a, ha, hb⟩
    · exact h.quiet i op x hi hx k
    · have := low_touch h.past.seen (x := i) (a := x) (by rw [touchAt_of hi]; exact hx) ha
      omega
  · obtain ⟨op, ho, hoa⟩ := Option.map_eq_some_iff.1 hi
    have hl := h.past.seen op (Array.mem_of_getElem? ho)
    rw [hoa] at hl
    have hl : Wg < B0 := hl
    omega
  · exact (h.past.known x a ha hm).imp id (fun e => ⟨h2 _ e.1, e.2⟩)
  · exact h.past.over x k hk (by omega) hc
  · obtain ⟨op, ho, rfl⟩ := Option.map_eq_some_iff.1 hk
    have := h.gs x op ho
    omega

theorem TR.finish {ps : Nat → Pos Lam} {j : Nat} (h : TR L c B Wg n ps j t) (hr : ps 0 = .ret) (hd : Deaf t 0 = 0) (hm : ∀ l : Loc, l.isMemory = false → L.Sh l) : Calm L.Sh B (c + j) t := by
  obtain ⟨q, q1, q2, q3, q4⟩ := h.acq hr
  have rel : ∀ x k, t.g? x = some k → c < k → t.counts x → HappensBefore t x q := fun x k hk k1 hc => by
    obtain ⟨op, ho, rfl⟩ := Option.map_eq_some_iff.1 hk
    have hgs := h.ct.gs x op ho
    obtain ⟨r, hr', hrq⟩ := q4 (op.g - c) (by omega) (by omega)
    rw [show c + (op.g - c) = op.g by omega] at hr'
    have edge : HappensBefore t r q := .single (.inr ⟨.marked hrq (.inr hr'.act) q1 (fun k _ _ => h.norel k), hr'.heard, q3⟩)
    have hle : x ≤ r := Nat.le_of_not_lt fun hlt => hr'.after x hlt hk hc
    rcases Nat.lt_or_ge x r with hlt | hge
    · exact .trans (.single (.inl ⟨hlt, op.g, hk, hr'.g⟩)) edge
    · obtain rfl : x = r := by omega
      exact edge
  have know : ∀ x, HappensBefore t x q → Knows t 0 x := fun x hx => by
    obtain ⟨op, ho, hg⟩ := Option.map_eq_some_iff.1 q2
    exact ⟨q, op, ho, hg, .inr hx⟩
  refine ⟨⟨h.ct.nr, fun x a ha hmem => ?_, fun x k hk h0 hc => ?_, hd, h.seen⟩, h.ct.quiet, h.ct.gs, hm⟩
  · obtain ⟨op, ho, hoa⟩ := touch_of ha
    have hk : t.g? x = some op.g := by simp [Trace.g?, ho]
    rcases Nat.eq_zero_or_pos op.g with h0 | hp
    · have := knows_own ho
      rw [h0] at this
      exact .inl this
    · rcases Nat.lt_or_ge c op.g with hlt | hge
      · by_cases hat : a.kind = .atomic
        · rcases h.dk x a op.g ha hk hlt hat with k | k
          · exact .inr ⟨k, hat⟩
          · exact .inl (know x (rel x op.g hk hlt k))
        · exact .inl (know x (rel x op.g hk hlt ⟨a, ha, hmem, .inl hat⟩))
      · exact h.old x a op.g ha hk hp hge hmem
  · rcases Nat.lt_or_ge c k with hlt | hge
    · exact ⟨q, q2, rel x k hk hlt hc⟩
    · exact h.over x k hk (by omega) hge hc
end

section
variable {X Lam : Type} {P : Program} {J : Job P X Lam}
/-- A PHASE, on whatever tape. -/
theorem phase (F : J.Fit) {Sh0 : Loc → Prop} {B0 : Nat} {gs : Array Goroutine} {a : Goroutine} {w : World} {sl : Option (Nat × Nat)} {t : Trace} {x0 : X} (h : Alone P Sh0 B0 J.c gs a t)
    (h1 : ∀ l, J.L.Sh l → Sh0 l ∨ ∃ a, l = .cell a ∧ B0 ≤ a.block) (h2 : ∀ l, Sh0 l → J.L.Sh l) (hW : B0 ≤ J.Wg) (hB : B0 ≤ J.Bd)
    (hsit : J.sit 0 (.kdS 0) a w) (hconc : J.conc ⟨0, 0, 0, x0⟩ w) (hJ : J.B.J x0 (J.B.cfg (fun _ => .kdS 0) 0)) :
    ∃ N gs' a' w' sl' t' x', runNT P N (crowd gs w sl) t = (.next (crowd gs' w' sl'), t') ∧ Alone P J.L.Sh J.Bd (J.c + J.B.n) gs' a' t' ∧ a'.status = .running ∧ J.conc ⟨0, 0, 0, x'⟩ w' ∧ J.B.J x' (fun _ => none) ∧ J.last x' a' w' := by
  obtain ⟨q, hq⟩ := h.lv
  have hone := F.fine.one
  obtain ⟨n0, hG⟩ := F.sit 0 (.kdS 0) a w hsit rfl
  have hplan : Plan J.B ⟨0, 0, 0, x0⟩ (fun _ => .kdS 0) 0 := ⟨⟨rfl, hone⟩, rfl, hJ, .opn trivial rfl rfl (fun i h1 h2 => by omega) (fun u hu => by cases hu)⟩
  have hd0 : Deaf t 0 = 0 := h.calm.past.hears
  have hI : Inv J.team J.c ⟨0, 0, 0, x0⟩ (fun _ => .kdS 0) 0 (fun _ => n0) 1 q gs w t := by
    refine ⟨by rw [h.size], fun i hi => ?_, fun x x1 x2 => ?_, fun k hk => hq.above k (by rw [h.size]; omega), hconc, hplan, h.calm.start F.apart h1 h2 hW hB hone⟩
    · obtain rfl : i = 0 := by omega
      exact ⟨a, h.main, by rw [if_pos rfl]; exact .walk rfl hd0 hG⟩
    · have hx : x < gs.size := by rw [h.size]; omega
      exact ⟨gs[x], Array.getElem?_eq_getElem hx, hq.old x _ (by omega) (Array.getElem?_eq_getElem hx)⟩
  obtain ⟨N, s', ps', j', f', b', q', gs', w', sl', t', hrun, hI', hfin, a', ha', hstop⟩ := runs F.rules F.traced _ _ (Nat.le_refl _) (Nat.le_refl _) (sl := sl) hI
  have hp' : Plan J.B s' ps' j' := hI'.inv
  obtain ⟨e1, e2, e3, e4, e5, e6, e7⟩ := Plan.ends hp' hfin
  have hst := hstop w' (F.rules.refl 0 w')
  obtain ⟨k1, _, k3⟩ := hst
  have k3 := k3 s' (by show okP _ _ _ _; rw [e1]; trivial) hI'.conc
  have hnx : J.team.next 0 (ps' 0) s' = .fin := hfin
  rw [hnx] at k3
  have hs' : s' = ⟨0, 0, 0, s'.x⟩ := by cases s'; simp_all
  obtain ⟨g0, m1, m2⟩ := hI'.mem 0 (Nat.zero_le _)
  have hg0 : g0 = a' := by
    rw [ix_zero, ha'] at m1
    exact (Option.some.inj m1).symm
  subst hg0
  have hde : Deaf t' 0 = 0 := by
    rcases m2.inv with ⟨_, hd, _, _⟩ | ⟨hqu, _⟩ | ⟨hb, _⟩
    · have hd : Deaf t' 0 = (ps' 0).deaf := hd
      rw [hd, e1]; rfl
    · have hqu : (ps' 0).quit = true := hqu
      rw [e1] at hqu; cases hqu
    · rw [k1] at hb; cases hb
  have htr : TR J.L J.c J.Bd J.Wg J.B.n ps' j' t' := hI'.tr
  refine ⟨N, gs', g0, w', sl', t', s'.x, hrun, ⟨by rw [hI'.size, e5]; omega, ha', ?_, ?_⟩, k1, by rw [← hs']; exact hI'.conc, e7, k3⟩
  · refine ⟨fun x => if x ≤ J.c then q' x else f' (x - J.c), ⟨fun x g hx hg => ?_, fun k hk => hI'.above k (by rw [← hI'.size]; exact hk)⟩⟩
    have hlt : x < gs'.size := (Array.getElem?_eq_some_iff.1 hg).1
    rw [hI'.size] at hlt
    by_cases hxc : x ≤ J.c
    · obtain ⟨g', r1, r2⟩ := hI'.old x (by omega) hxc
      rw [hg] at r1
      obtain rfl := Option.some.inj r1
      simp only [hxc, if_true]
      exact r2
    · obtain ⟨g', r1, r2⟩ := hI'.mem (x - J.c) (by omega)
      rw [ix_pos (by omega), show J.c + (x - J.c) = x by omega, hg] at r1
      obtain rfl := Option.some.inj r1
      rw [ix_pos (by omega), show J.c + (x - J.c) = x by omega] at r2
      simp only [hxc, if_false]
      rcases r2.inv with ⟨hqu, _⟩ | ⟨_, _, _, hQ⟩ | ⟨_, _, h0, _⟩
      · have hqu : (ps' (x - J.c)).quit = false := hqu
        rw [e6 (x - J.c) (by omega) (by omega)] at hqu; cases hqu
      · exact hQ
      · omega
  · rw [← e5]
    exact htr.finish e1 hde (fun l hl => h2 l (h.calm.mem l hl))
end
end Go.Proofs.Ytboiolnnhmlieaa.Gang
