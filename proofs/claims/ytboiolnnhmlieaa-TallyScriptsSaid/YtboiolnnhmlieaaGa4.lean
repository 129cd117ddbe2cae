
/-
  The plan of a WaitGroup, on: every action keeps it and makes its measure fall; nobody waits for ever.
  Conditions: stated lemma by lemma.
-/
import Derived.Test.YtboiolnnhmlieaaGa3
namespace Go.Proofs.Ytboiolnnhmlieaa.Gang
open Go.Conc Go.ConcN
set_option linter.unusedVariables false
set_option linter.unusedSimpArgs false

section
variable {X Lam : Type} {B : Body X Lam} {s s' : St X} {ps : Nat → Pos Lam} {j i : Nat} {p' : Pos Lam}
theorem work_gone {p : Pos Lam} (h : work p) (h0 : cnt p = 0) : p = .gone := by
  cases p <;> simp_all [work, cnt]
theorem gone_of_tot (h : ∀ i, 1 ≤ i → i ≤ j → work (ps i)) (h0 : tot j ps = 0) : ∀ i, 1 ≤ i → i ≤ j → ps i = .gone := fun i h1 h2 =>
  work_gone (h i h1 h2) (by have := le_tot (ps := ps) h2; omega)
theorem exists_counted (h : 1 ≤ tot j ps) : ∃ i, i ≤ j ∧ cnt (ps i) ≠ 0 := by
  by_cases hh : ∃ i, i ≤ j ∧ cnt (ps i) ≠ 0
  · exact hh
  · have : tot j ps ≤ 0 * (j + 1) := sumTo_le fun i hi => by
      have : ¬ (i ≤ j ∧ cnt (ps i) ≠ 0) := fun e => hh ⟨i, e⟩
      omega
    omega
theorem phi_le (n : Nat) {v v' : Nat} (h : v' ≤ v) (p : Pos Lam) : phi n v' p ≤ phi n v p := by
  cases p <;> simp only [phi] <;> omega
theorem tot_upd (h2 : i ≤ j) (p : Pos Lam) : tot j (upd ps i p) + cnt (ps i) = tot j ps + cnt p := sum_upd cnt h2 p

/-- a worker's action that counts as before -/
theorem Plan.kid_same (h : Plan B s ps j) (h1 : 1 ≤ i) (h2 : i ≤ j) (hl : p'.lam = (ps i).lam) (hc : cnt p' = cnt (ps i)) (hg : stg p' < stg (ps i)) (hm : Mode s (upd ps i p') j) :
    Plan B s (upd ps i p') j ∧ B.meas s (upd ps i p') j < B.meas s ps j := by
  have e0 : upd ps i p' 0 = ps 0 := upd_ne _ _ (by omega)
  have ht := tot_upd (ps := ps) h2 p'
  have hs := sum_upd (ps := ps) stg h2 p'
  refine ⟨⟨by rw [e0]; exact h.st, by rw [e0, h.c]; omega, by rw [cfg_same (by omega) h2 _ hl]; exact h.J, hm⟩, ?_⟩
  unfold Body.meas
  rw [e0, cfg_same (by omega) h2 _ hl]
  omega

theorem Plan.work_act (h : Plan B s ps j) (h1 : 1 ≤ i) (h2 : i ≤ j) (hF : B.Fine) (hw : work (ps i)) (hq : (ps i).quit = false) (hn : B.next (ps i) s = .act s' p')
    (hm : ∀ (s' : St X) (p' : Pos Lam), (p' = .k1 ∨ p' = .d1 ∨ p' = .rel ∨ (∃ l, p' = .body l)) → s'.v = s.v → s'.wt = s.wt → s'.sm = s.sm → Mode s' (upd ps i p') j)
    (hmd : ps i = .d1 → 1 ≤ s.v → Mode { s with v := s.v - 1 } (upd ps i (if s.v = 1 ∧ s.wt = 1 then .d2 else .gone)) j) :
    Plan B s' (upd ps i p') j ∧ B.meas s' (upd ps i p') j < B.meas s ps j := by
  have e0 : ∀ p : Pos Lam, upd ps i p 0 = ps 0 := fun p => upd_ne _ _ (by omega)
  cases hp : ps i with
  | body l =>
    rw [hp] at hn
    injection hn with hs hpp
    subst hs; subst hpp
    have hci : B.cfg ps j i = some l := by
      unfold Body.cfg
      rw [if_neg (by omega), if_pos h2, hp]; rfl
    obtain ⟨hJ, hcost⟩ := hF.keeps s.x (B.cfg ps j) i l h.J hci
    have ht := tot_upd (ps := ps) h2 (B.enter (B.stp l s.x).2)
    have hs := sum_upd (ps := ps) stg h2 (B.enter (B.stp l s.x).2)
    have hc1 : cnt (B.enter (B.stp l s.x).2) = 1 ∧ stg (B.enter (B.stp l s.x).2) = 7 := by unfold Body.enter; split <;> exact ⟨rfl, rfl⟩
    rw [hp] at ht hs
    rw [hc1.1] at ht
    rw [hc1.2] at hs
    have hcfg := cfg_kid (B := B) (ps := ps) (i := i) (by omega) h2 (B.enter (B.stp l s.x).2)
    rw [B.lam_enter] at hcfg
    refine ⟨⟨by rw [e0]; exact h.st, ?_, by rw [hcfg]; exact hJ, hm _ _ (by unfold Body.enter; split <;> simp) rfl rfl rfl⟩, ?_⟩
    · show s.v = _
      rw [e0, h.c]
      simp only [cnt] at ht
      omega
    · unfold Body.meas
      rw [e0, hcfg]
      rw [show stg (.body l : Pos Lam) = 7 from rfl] at hs
      show B.cost (B.stp l s.x).1 _ + phi B.n s.v (ps 0) + _ + _ < _
      omega
  | rel =>
    rw [hp] at hn
    injection hn with hs hpp
    subst hs; subst hpp
    exact h.kid_same h1 h2 (by rw [hp]; rfl) (by rw [hp]; rfl) (by rw [hp]; simp [stg]) (hm _ _ (.inl rfl) rfl rfl rfl)
  | k1 =>
    rw [hp] at hn
    injection hn with hs hpp
    subst hs; subst hpp
    exact h.kid_same h1 h2 (by rw [hp]; rfl) (by rw [hp]; rfl) (by rw [hp]; simp [stg]) (hm _ _ (.inr (.inl rfl)) rfl rfl rfl)
  | d1 =>
    rw [hp] at hn
    injection hn with hs hpp
    subst hs; subst hpp
    obtain ⟨p2, hp2⟩ : ∃ p2 : Pos Lam, p2 = if s.v = 1 ∧ s.wt = 1 then .d2 else .gone := ⟨_, rfl⟩
    have hv : 1 ≤ s.v := by
      have := le_tot (ps := ps) h2
      rw [hp] at this
      have hcc := h.c
      simp only [cnt] at this
      omega
    have hmd := hmd hp hv
    rw [← hp2] at hmd ⊢
    have hk : cnt p2 = 0 ∧ stg p2 ≤ 4 ∧ p2.lam = (ps i).lam := by
      rw [hp2, hp]; split <;> exact ⟨rfl, by simp [stg], rfl⟩
    have ht := tot_upd (ps := ps) h2 p2
    have hs := sum_upd (ps := ps) stg h2 p2
    rw [hp, hk.1] at ht
    rw [hp] at hs
    simp only [cnt] at ht
    rw [show stg (.d1 : Pos Lam) = 5 from rfl] at hs
    refine ⟨⟨by rw [e0]; exact h.st, ?_, by rw [cfg_same (by omega) h2 _ hk.2.2]; exact h.J, hmd⟩, ?_⟩
    · show s.v - 1 = _
      rw [e0]
      have := h.c
      omega
    · unfold Body.meas
      rw [e0, cfg_same (by omega) h2 _ hk.2.2]
      have := phi_le (Lam := Lam) B.n (v := s.v) (v' := s.v - 1) (by omega) (ps 0)
      show B.cost s.x _ + phi B.n (s.v - 1) (ps 0) + _ + _ < _
      have hk2 := hk.2.1
      omega
  | gone => rw [hp] at hq; cases hq
  | _ => rw [hp] at hw; exact hw.elim

theorem Plan.kid_act (h : Plan B s ps j) (h1 : 1 ≤ i) (h2 : i ≤ j) (hF : B.Fine) (hq : (ps i).quit = false) (hn : B.next (ps i) s = .act s' p') :
    Plan B s' (upd ps i p') j ∧ B.meas s' (upd ps i p') j < B.meas s ps j := by
  have e0 : ∀ p : Pos Lam, upd ps i p 0 = ps 0 := fun p => upd_ne _ _ (by omega)
  have ei : ∀ p : Pos Lam, upd ps i p i = p := fun p => upd_same _ _ _
  have wk : ∀ (p : Pos Lam), work p → (∀ k, 1 ≤ k → k ≤ j → work (ps k)) → ∀ k, 1 ≤ k → k ≤ j → work (upd ps i p k) := fun p hp hw k k1 k2 => by
    by_cases e : k = i
    · rw [e, ei]; exact hp
    · rw [upd_ne _ _ e]; exact hw k k1 k2
  have four : ∀ p' : Pos Lam, (p' = .k1 ∨ p' = .d1 ∨ p' = .rel ∨ (∃ l, p' = .body l)) → work p' := fun p' h => by
    rcases h with rfl | rfl | rfl | ⟨l, rfl⟩ <;> trivial
  have hfirst := h.c
  cases h.md with
  | opn m1 m2 m3 m4 m5 =>
    refine h.work_act h1 h2 hF (m4 i h1 h2) hq hn (fun s' p' hp hv hwt hsm => .opn (by rw [e0]; exact m1) (by rw [hwt]; exact m2) (by rw [hsm]; exact m3) (wk p' (four p' hp) m4) (by rw [e0, hv]; exact m5)) (fun hd hv => ?_)
    rw [if_neg (by omega)]
    exact .opn (by rw [e0]; exact m1) m2 m3 (wk _ trivial m4) (fun u hu => by rw [e0] at hu; have := m5 u hu; exact ⟨by show s.v - 1 ≤ u; omega, this.2⟩)
  | reg m1 m2 m3 m4 m5 =>
    refine h.work_act h1 h2 hF (m5 i h1 h2) hq hn (fun s' p' hp hv hwt hsm => .reg (by rw [e0]; exact m1) (by rw [hwt]; exact m2) (by rw [hsm]; exact m3) (by rw [hv]; exact m4) (wk p' (four p' hp) m5)) (fun hd hv => ?_)
    by_cases hv1 : s.v = 1
    · rw [if_pos ⟨hv1, m2⟩]
      refine .last i (by rw [e0]; exact m1) h1 h2 (.inl ⟨ei _, m2⟩) m3 (by show s.v - 1 = 0; omega) (fun k k1 k2 hk => ?_)
      rw [upd_ne _ _ hk]
      refine work_gone (m5 k k1 k2) ?_
      have ht := tot_upd (ps := ps) h2 (.gone : Pos Lam)
      rw [hd] at ht
      simp only [cnt] at ht
      have hk' := le_tot (ps := upd ps i .gone) k2
      rw [upd_ne _ _ hk] at hk'
      rw [m1] at hfirst
      simp only [pend] at hfirst
      omega
    · rw [if_neg (fun e => hv1 e.1)]
      exact .reg (by rw [e0]; exact m1) m2 m3 (by show 1 ≤ s.v - 1; omega) (wk _ trivial m5)
  | last L m1 m2 m3 m4 m5 m6 m7 =>
    have hiL : i = L := by
      by_cases e : i = L
      · exact e
      · rw [m7 i h1 h2 e] at hq; cases hq
    subst hiL
    have oth : ∀ (p : Pos Lam) k, 1 ≤ k → k ≤ j → k ≠ i → upd ps i p k = .gone := fun p k k1 k2 hk => by rw [upd_ne _ _ hk]; exact m7 k k1 k2 hk
    have e1 : ps 0 = .w3 := m1
    rcases m4 with ⟨hp, hwt⟩ | ⟨hp, hwt⟩ | ⟨hp, hwt⟩
    · rw [hp] at hn
      injection hn with hs hpp
      subst hs; subst hpp
      exact h.kid_same h1 h2 (by rw [hp]; rfl) (by rw [hp]; rfl) (by rw [hp]; simp [stg]) (.last i (by rw [e0]; exact m1) m2 m3 (.inr (.inl ⟨ei _, hwt⟩)) m5 m6 (oth _))
    · rw [hp] at hn
      injection hn with hs hpp
      subst hs; subst hpp
      have ht := tot_upd (ps := ps) h2 (.d4 : Pos Lam)
      have hs := sum_upd (ps := ps) stg h2 (.d4 : Pos Lam)
      rw [hp] at ht hs
      simp only [cnt] at ht
      rw [show stg (.d3 : Pos Lam) = 3 from rfl, show stg (.d4 : Pos Lam) = 2 from rfl] at hs
      have hcf := cfg_same (B := B) (ps := ps) (i := i) (by omega) h2 (.d4 : Pos Lam) (by rw [hp]; rfl)
      refine ⟨⟨by rw [e0]; exact h.st, by rw [e0]; show s.v = _; omega, by rw [hcf]; exact h.J, .last i (by rw [e0]; exact m1) m2 m3 (.inr (.inr ⟨ei _, rfl⟩)) m5 m6 (oth _)⟩, ?_⟩
      unfold Body.meas
      rw [e0, hcf]
      show B.cost s.x _ + phi B.n s.v (ps 0) + _ + _ < _
      omega
    · rw [hp] at hn
      injection hn with hs hpp
      subst hs; subst hpp
      have ht := tot_upd (ps := ps) h2 (.gone : Pos Lam)
      have hs := sum_upd (ps := ps) stg h2 (.gone : Pos Lam)
      rw [hp] at ht hs
      simp only [cnt] at ht
      rw [show stg (.d4 : Pos Lam) = 2 from rfl, show stg (.gone : Pos Lam) = 1 from rfl] at hs
      have hcf := cfg_same (B := B) (ps := ps) (i := i) (by omega) h2 (.gone : Pos Lam) (by rw [hp]; rfl)
      refine ⟨⟨by rw [e0]; exact h.st, by rw [e0]; show s.v = _; omega, by rw [hcf]; exact h.J, .sema (by rw [e0]; exact m1) hwt rfl m6 (fun k k1 k2 => ?_)⟩, ?_⟩
      · by_cases e : k = i
        · rw [e, ei]
        · exact oth _ k k1 k2 e
      · unfold Body.meas
        rw [e0, hcf]
        show B.cost s.x _ + phi B.n s.v (ps 0) + _ + _ < _
        omega
  | sema _ _ _ _ m5 => rw [m5 i h1 h2] at hq; cases hq
  | fin _ _ _ _ m5 => rw [m5 i h1 h2] at hq; cases hq

/-- the first's action -/
theorem Plan.main_same (h : Plan B s ps j) {s' : St X} (hx : s'.x = s.x) (hst : started B.n j p') (hc : s'.v = tot j ps + pend p') (hphi : phi B.n s'.v p' < phi B.n s.v (ps 0)) (hm : Mode s' (upd ps 0 p') j) :
    Plan B s' (upd ps 0 p') j ∧ B.meas s' (upd ps 0 p') j < B.meas s ps j := by
  have ht := tot_upd (ps := ps) (i := 0) (j := j) (Nat.zero_le _) p'
  have hs := sum_upd (ps := ps) (j := j) stg (i := 0) (Nat.zero_le _) p'
  have m1 := main_cnt hst
  have m2 := main_cnt h.st
  refine ⟨⟨by rw [upd_same]; exact hst, by rw [upd_same]; omega, by rw [cfg_main, hx]; exact h.J, hm⟩, ?_⟩
  unfold Body.meas
  rw [cfg_main, upd_same, hx]
  omega

theorem Plan.main_act (h : Plan B s ps j) (hF : B.Fine) (hn : B.next (ps 0) s = .act s' p') : Plan B s' (upd ps 0 p') j ∧ B.meas s' (upd ps 0 p') j < B.meas s ps j := by
  have wk : ∀ (p : Pos Lam), (∀ k, 1 ≤ k → k ≤ j → work (ps k)) → ∀ k, 1 ≤ k → k ≤ j → work (upd ps 0 p k) := fun p hw k k1 k2 => by rw [upd_ne _ _ (by omega)]; exact hw k k1 k2
  have gn : ∀ (p : Pos Lam), (∀ k, 1 ≤ k → k ≤ j → ps k = .gone) → ∀ k, 1 ≤ k → k ≤ j → upd ps 0 p k = .gone := fun p hw k k1 k2 => by rw [upd_ne _ _ (by omega)]; exact hw k k1 k2
  have e0 : ∀ p : Pos Lam, upd ps 0 p 0 = p := fun p => upd_same _ _ _
  have hst := h.st
  have hc := h.c
  have htl := tot_le h.st
  cases h.md with
  | opn m1 m2 m3 m4 m5 =>
    cases hp : ps 0 with
    | kdS k =>
      rw [hp] at hn hst hc; injection hn with hs hpp; subst hs; subst hpp
      exact h.main_same rfl hst hc (by rw [hp]; simp only [phi]; omega) (.opn (by rw [e0]; trivial) m2 m3 (wk _ m4) (fun u hu => by rw [e0] at hu; cases hu))
    | a1 k =>
      rw [hp] at hn hst hc; injection hn with hs hpp; subst hs; subst hpp
      refine h.main_same rfl hst (by show s.v + 1 = _; simp only [pend] at hc ⊢; omega) (by rw [hp]; simp only [phi]; omega) (.opn (by rw [e0]; trivial) m2 m3 (wk _ m4) (fun u hu => by rw [e0] at hu; cases hu))
    | keS k =>
      rw [hp] at hn hst hc; injection hn with hs hpp; subst hs; subst hpp
      exact h.main_same rfl hst hc (by rw [hp]; simp only [phi]; omega) (.opn (by rw [e0]; trivial) m2 m3 (wk _ m4) (fun u hu => by rw [e0] at hu; cases hu))
    | goS k => rw [hp] at hn; cases hn
    | kd =>
      rw [hp] at hn hst hc; injection hn with hs hpp; subst hs; subst hpp
      simp only [started] at hst
      simp only [pend] at hc
      exact h.main_same rfl hst hc (by rw [hp]; simp only [phi]; omega) (.opn (by rw [e0]; trivial) m2 m3 (wk _ m4) (fun u hu => by rw [e0] at hu; cases hu))
    | w1 =>
      rw [hp] at hn hst hc; injection hn with hs hpp; subst hs; subst hpp
      simp only [started] at hst
      simp only [pend] at hc
      by_cases hv : s.v = 0
      · rw [if_pos hv]
        exact h.main_same rfl hst hc (by rw [hp]; simp only [phi]; omega) (.fin (by rw [e0]; trivial) m2 m3 hv (gn _ (gone_of_tot m4 (by omega))))
      · rw [if_neg hv]
        exact h.main_same rfl ⟨hst, by omega⟩ hc (by rw [hp]; simp only [phi]; omega) (.opn (by rw [e0]; trivial) m2 m3 (wk _ m4) (fun u hu => by rw [e0] at hu; injection hu with hu; omega))
    | w2 u =>
      rw [hp] at hn hst hc
      simp only [started] at hst
      simp only [pend] at hc
      have hu := m5 u hp
      simp only [Body.next] at hn
      by_cases hv : s.v = u
      · rw [if_pos hv] at hn
        injection hn with hs hpp; subst hs; subst hpp
        exact h.main_same rfl hst.1 hc (by rw [hp]; simp only [phi]; omega) (.reg (by rw [e0]) rfl m3 (by show 1 ≤ s.v; omega) (wk _ m4))
      · rw [if_neg hv] at hn
        injection hn with hs hpp; subst hs; subst hpp
        exact h.main_same rfl hst.1 hc (by rw [hp]; simp only [phi]; omega) (.opn (by rw [e0]; trivial) m2 m3 (wk _ m4) (fun u hu => by rw [e0] at hu; cases hu))
    | _ => rw [hp] at m1; exact m1.elim
  | reg m1 m2 m3 m4 m5 => rw [m1] at hn; simp [Body.next, m3] at hn
  | last L m1 _ _ _ m5 _ _ => rw [m1] at hn; simp [Body.next, m5] at hn
  | sema m1 m2 m3 m4 m5 =>
    rw [m1] at hn hst hc
    simp only [Body.next, m3] at hn
    rw [if_neg (by decide)] at hn
    injection hn with hs hpp; subst hs; subst hpp
    exact h.main_same rfl hst hc (by rw [m1]; simp only [phi]; omega) (.fin (by rw [e0]; trivial) m2 rfl m4 (gn _ m5))
  | fin m1 m2 m3 m4 m5 =>
    cases hp : ps 0 with
    | w4 =>
      rw [hp] at hn hst hc; injection hn with hs hpp; subst hs; subst hpp
      exact h.main_same rfl hst hc (by rw [hp]; simp only [phi]; omega) (.fin (by rw [e0]; trivial) m2 m3 m4 (gn _ m5))
    | ke =>
      rw [hp] at hn hst hc; injection hn with hs hpp; subst hs; subst hpp
      exact h.main_same rfl hst hc (by rw [hp]; simp only [phi]; omega) (.fin (by rw [e0]; trivial) m2 m3 m4 (gn _ m5))
    | acq =>
      rw [hp] at hn hst hc; injection hn with hs hpp; subst hs; subst hpp
      exact h.main_same rfl hst hc (by rw [hp]; simp only [phi]; omega) (.fin (by rw [e0]; trivial) m2 m3 m4 (gn _ m5))
    | ret => rw [hp] at hn; cases hn
    | _ => rw [hp] at m1; exact m1.elim

theorem Plan.act (h : Plan B s ps j) (hF : B.Fine) (h2 : i ≤ j) (hq : (ps i).quit = false) (hn : B.next (ps i) s = .act s' p') : Plan B s' (upd ps i p') j ∧ B.meas s' (upd ps i p') j < B.meas s ps j := by
  rcases Nat.eq_zero_or_pos i with rfl | hp
  · exact h.main_act hF hn
  · exact h.kid_act hp h2 hF hq hn

theorem Plan.kid_pos (h : Plan B s ps j) (h1 : 1 ≤ i) (h2 : i ≤ j) : work (ps i) ∨ ps i = .d2 ∨ ps i = .d3 ∨ ps i = .d4 := by
  cases h.md with
  | opn _ _ _ m4 _ => exact .inl (m4 i h1 h2)
  | reg _ _ _ _ m5 => exact .inl (m5 i h1 h2)
  | last L _ _ _ m4 _ _ m7 =>
    by_cases e : i = L
    · subst e
      rcases m4 with ⟨h, _⟩ | ⟨h, _⟩ | ⟨h, _⟩
      · exact .inr (.inl h)
      · exact .inr (.inr (.inl h))
      · exact .inr (.inr (.inr h))
    · rw [m7 i h1 h2 e]; exact .inl trivial
  | sema _ _ _ _ m5 => rw [m5 i h1 h2]; exact .inl trivial
  | fin _ _ _ _ m5 => rw [m5 i h1 h2]; exact .inl trivial
theorem Plan.kid_acts (h : Plan B s ps j) (h1 : 1 ≤ i) (h2 : i ≤ j) (hq : (ps i).quit = false) : ∃ s' p', B.next (ps i) s = .act s' p' := by
  rcases h.kid_pos h1 h2 with hw | hp | hp | hp
  · cases hp : ps i with
    | gone => rw [hp] at hq; cases hq
    | body l => exact ⟨_, _, rfl⟩
    | rel => exact ⟨_, _, rfl⟩
    | k1 => exact ⟨_, _, rfl⟩
    | d1 => exact ⟨_, _, rfl⟩
    | _ => rw [hp] at hw; exact hw.elim
  all_goals rw [hp]; exact ⟨_, _, rfl⟩
theorem block_iff {p : Pos Lam} (h : B.next p s = .block) : p = .w3 ∧ s.sm = 0 := by
  cases p with
  | w3 =>
    simp only [Body.next] at h
    by_cases e : s.sm = 0
    · exact ⟨rfl, e⟩
    · rw [if_neg e] at h; cases h
  | w2 u => simp only [Body.next] at h; split at h <;> cases h
  | _ => cases h
theorem Plan.wake (h : Plan B s ps j) (h1 : 1 ≤ i) (h2 : i ≤ j) (hq : (ps i).quit = false) (hn : B.next (ps i) s = .act s' p') (hb : B.next (ps 0) s = .block) (hb' : B.next (ps 0) s' ≠ .block) : (ps i).wakes = true := by
  obtain ⟨e1, e2⟩ := block_iff hb
  have hsm : s'.sm ≠ 0 := fun e => hb' (by rw [e1]; simp [Body.next, e])
  rcases h.kid_pos h1 h2 with hw | hp | hp | hp
  · exfalso
    cases hp : ps i with
    | gone => rw [hp] at hq; cases hq
    | body l => rw [hp] at hn; injection hn with hs _; subst hs; exact hsm e2
    | rel => rw [hp] at hn; injection hn with hs _; subst hs; exact hsm e2
    | k1 => rw [hp] at hn; injection hn with hs _; subst hs; exact hsm e2
    | d1 => rw [hp] at hn; injection hn with hs _; subst hs; exact hsm e2
    | _ => rw [hp] at hw; exact hw.elim
  · exfalso; rw [hp] at hn; injection hn with hs _; subst hs; exact hsm e2
  · exfalso; rw [hp] at hn; injection hn with hs _; subst hs; exact hsm e2
  · rw [hp]; rfl
theorem Plan.live (h : Plan B s ps j) (hb : B.next (ps 0) s = .block) : ∃ i, 1 ≤ i ∧ i ≤ j ∧ (ps i).quit = false := by
  obtain ⟨e1, e2⟩ := block_iff hb
  have hc := h.c
  cases h.md with
  | opn m1 => rw [e1] at m1; exact m1.elim
  | reg _ _ _ m4 m5 =>
    rw [e1] at hc
    simp only [pend] at hc
    obtain ⟨i, h1, h2⟩ := exists_counted (ps := ps) (j := j) (by omega)
    refine ⟨i, ?_, h1, ?_⟩
    · rcases Nat.eq_zero_or_pos i with rfl | hp
      · exact absurd (main_cnt h.st).1 h2
      · exact hp
    · cases hp : ps i <;> simp_all [cnt, Pos.quit]
  | last L _ m2 m3 m4 _ _ _ =>
    refine ⟨L, m2, m3, ?_⟩
    rcases m4 with ⟨h, _⟩ | ⟨h, _⟩ | ⟨h, _⟩ <;> rw [h] <;> rfl
  | sema _ _ m3 => rw [e2] at m3; cases m3
  | fin m1 => rw [e1] at m1; exact m1.elim
theorem Plan.ends (h : Plan B s ps j) (hf : B.next (ps 0) s = .fin) : ps 0 = .ret ∧ s.v = 0 ∧ s.wt = 0 ∧ s.sm = 0 ∧ j = B.n ∧ (∀ i, 1 ≤ i → i ≤ j → ps i = .gone) ∧ B.J s.x (fun _ => none) := by
  have hst := h.st
  have hr : ps 0 = .ret := by
    cases hp : ps 0 with
    | ret => rfl
    | w2 u => rw [hp] at hf; simp only [Body.next] at hf; split at hf <;> cases hf
    | w3 => rw [hp] at hf; simp only [Body.next] at hf; split at hf <;> cases hf
    | gone => rw [hp] at hst; exact hst.elim
    | _ => rw [hp] at hf; cases hf
  have hj : j = B.n := by rw [hr] at hst; exact hst
  cases h.md with
  | opn m1 => rw [hr] at m1; exact m1.elim
  | reg m1 => rw [hr] at m1; cases m1
  | last _ m1 => rw [hr] at m1; cases m1
  | sema m1 => rw [hr] at m1; cases m1
  | fin _ m2 m3 m4 m5 =>
    refine ⟨hr, m4, m2, m3, hj, m5, ?_⟩
    have e : B.cfg ps j = fun _ => none := by
      funext i
      unfold Body.cfg
      split
      · rfl
      · split
        · rw [m5 i (by omega) (by omega)]; rfl
        · rw [if_neg (by omega)]
    rw [← e]
    exact h.J
theorem Plan.spawn (h : Plan B s ps j) {pq : Pos Lam} (hn : B.next (ps 0) s = .spawn s' p' pq) : (Plan B s' (upd (upd ps 0 p') (j + 1) pq) (j + 1) ∧ B.meas s' (upd (upd ps 0 p') (j + 1) pq) (j + 1) < B.meas s ps j ∧ p'.quit = false ∧ pq.quit = false ∧ (ps 0).kid = j + 1) ∧ p'.deaf = (ps 0).deaf ∧ pq.deaf = 0 := by
  have hst := h.st
  have hc := h.c
  cases hp : ps 0 with
  | goS k =>
    rw [hp] at hn hst hc
    injection hn with hs hpp hpq
    subst hs; subst hpp; subst hpq
    obtain ⟨rfl, hk⟩ := hst
    obtain ⟨p2, hp2⟩ : ∃ p2 : Pos Lam, p2 = if k + 1 < B.n then .kdS (k + 1) else .kd := ⟨_, rfl⟩
    rw [← hp2]
    have f2 : started B.n (k + 1) p2 ∧ pend p2 = 0 ∧ isOpen p2 ∧ phi B.n s.v p2 + 7 ≤ phi B.n s.v (.goS k : Pos Lam) + 7 - 1 ∧ p2.quit = false ∧ p2.deaf = 0 ∧ (∀ u, p2 ≠ .w2 u) := by
      rw [hp2]
      split
      · refine ⟨⟨rfl, by assumption⟩, rfl, trivial, ?_, rfl, rfl, fun u h => by cases h⟩
        simp only [phi]; omega
      · refine ⟨by show k + 1 = B.n; omega, rfl, trivial, ?_, rfl, rfl, fun u h => by cases h⟩
        simp only [phi]; omega
    have hen : cnt (B.enter (B.ini (k + 1))) = 1 ∧ stg (B.enter (B.ini (k + 1))) = 7 ∧ (B.enter (B.ini (k + 1))).quit = false ∧ (B.enter (B.ini (k + 1))).deaf = 0 ∧ work (B.enter (B.ini (k + 1))) := by
      unfold Body.enter; split <;> exact ⟨rfl, rfl, rfl, rfl, trivial⟩
    have m2 := main_cnt f2.1
    have hcn : tot (k + 1) (upd (upd ps 0 p2) (k + 1) (B.enter (B.ini (k + 1)))) + cnt (ps 0) = tot k ps + cnt p2 + cnt (B.enter (B.ini (k + 1))) := sum_born cnt p2 _
    have hsn := sum_born (ps := ps) (j := k) stg p2 (B.enter (B.ini (k + 1)))
    rw [hp, m2.1, hen.1] at hcn
    rw [hp, m2.2.1, hen.2.1] at hsn
    rw [show cnt (.goS k : Pos Lam) = 0 from rfl] at hcn
    rw [show stg (.goS k : Pos Lam) = 0 from rfl] at hsn
    rw [show pend (.goS k : Pos Lam) = 1 from rfl] at hc
    have u0 : upd (upd ps 0 p2) (k + 1) (B.enter (B.ini (k + 1))) 0 = p2 := by rw [upd_ne _ _ (by omega), upd_same]
    refine ⟨⟨⟨by rw [u0]; exact f2.1, by rw [u0, f2.2.1]; omega, by rw [cfg_born hk]; exact h.J, ?_⟩, ?_, f2.2.2.2.2.1, hen.2.2.1, rfl⟩, f2.2.2.2.2.2.1, hen.2.2.2.1⟩
    · cases h.md with
      | opn m1 m2 m3 m4 m5 =>
        refine .opn (by rw [u0]; exact f2.2.2.1) m2 m3 (fun i h1 h2 => ?_) (fun u hu => absurd (u0.symm.trans hu) (f2.2.2.2.2.2.2 u))
        by_cases e : i = k + 1
        · rw [e, upd_same]; exact hen.2.2.2.2
        · rw [upd_ne _ _ e, upd_ne _ _ (by omega)]; exact m4 i h1 (by omega)
      | reg m1 => rw [hp] at m1; cases m1
      | last _ m1 => rw [hp] at m1; cases m1
      | sema m1 => rw [hp] at m1; cases m1
      | fin m1 => rw [hp] at m1; exact m1.elim
    · unfold Body.meas
      rw [u0, cfg_born hk, hp]
      have := f2.2.2.2.1
      omega
  | w2 u => rw [hp] at hn; simp only [Body.next] at hn; split at hn <;> cases hn
  | w3 => rw [hp] at hn; simp only [Body.next] at hn; split at hn <;> cases hn
  | _ => rw [hp] at hn; cases hn
end
end Go.Proofs.Ytboiolnnhmlieaa.Gang
