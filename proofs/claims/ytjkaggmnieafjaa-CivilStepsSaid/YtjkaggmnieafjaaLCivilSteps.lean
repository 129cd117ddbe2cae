/-
  The statement CivilSteps: from one minute to the next the calendar goes on by one minute, hour, day, month or year; and back it is the same minute.
  No condition.
-/
import Derived.Test.YtjkaggmnieafjaaCivA
import Derived.Test.YtjkaggmnieafjaaFrame
namespace Go.Proofs.Ytjkaggmnieafjaa.lawCivilSteps
open Go.ChangeShapes Go.WideShapes Go.ChangeAt Go.RowKit
set_option linter.unusedVariables false

/-- the day behind a day -/
theorem next_day {n : Int} (a : 0 ≤ n) (b : n + 1 ≤ 157053) :
    (Cal.dy n < Cal.dim (Cal.yr n) (Cal.mo n) ∧ Cal.yr (n + 1) = Cal.yr n ∧ Cal.mo (n + 1) = Cal.mo n ∧ Cal.dy (n + 1) = Cal.dy n + 1) ∨
    (Cal.dy n = Cal.dim (Cal.yr n) (Cal.mo n) ∧ Cal.mo n < 12 ∧ Cal.yr (n + 1) = Cal.yr n ∧ Cal.mo (n + 1) = Cal.mo n + 1 ∧ Cal.dy (n + 1) = 1) ∨
    (Cal.dy n = Cal.dim (Cal.yr n) (Cal.mo n) ∧ Cal.mo n = 12 ∧ Cal.yr (n + 1) = Cal.yr n + 1 ∧ Cal.mo (n + 1) = 1 ∧ Cal.dy (n + 1) = 1) := by
  obtain ⟨hk, hnum⟩ := Cal.ymd_ok (n := n) a (by omega)
  have h0 := hk.y0; have h1 := hk.y1; have h2 := hk.m0; have h3 := hk.m1; have h4 := hk.d0; have h5 := hk.d1
  have hcs := Cal.cum_succ (Cal.yr n) (Cal.mo n) h0 h1 h2 h3
  unfold Cal.num at hnum
  rcases Int.lt_or_le (Cal.dy n) (Cal.dim (Cal.yr n) (Cal.mo n)) with h | h
  · exact .inl ⟨h, Cal.ymd_eq (n := n + 1) ⟨h0, h1, h2, h3, by omega, by omega⟩ (by unfold Cal.num; omega)⟩
  · rcases Int.lt_or_le (Cal.mo n) 12 with hm | hm
    · have hp := Cal.dim_pos (y := Cal.yr n) (m := Cal.mo n + 1) h0 h1 (by omega) (by omega)
      exact .inr (.inl ⟨by omega, hm, Cal.ymd_eq (n := n + 1) ⟨h0, h1, by omega, by omega, by omega, by omega⟩ (by unfold Cal.num; omega)⟩)
    · have e12 : Cal.mo n = 12 := by omega
      have h13 : Cal.cum (Cal.yr n) (Cal.mo n + 1) = 365 + Cal.lp (Cal.yr n) := by rw [e12]; exact Cal.cum_13 _
      have hs := Cal.dby_succ (Cal.yr n)
      have hy : Cal.yr n < 2399 := by
        rcases Int.lt_or_le (Cal.yr n) 2399 with hl | hl
        · exact hl
        · have e : Cal.yr n = 2399 := by omega
          have : Cal.dby (Cal.yr n + 1) = 157054 := by rw [e]; exact Cal.dby_2400
          omega
      have hp := Cal.dim_pos (y := Cal.yr n + 1) (m := 1) (by omega) (by omega) (by omega) (by omega)
      have hc1 := Cal.cum_1 (Cal.yr n + 1)
      exact .inr (.inr ⟨by omega, e12, Cal.ymd_eq (n := n + 1) ⟨by omega, by omega, by omega, by omega, by omega, by omega⟩ (by unfold Cal.num; omega)⟩)

/-- how the minute goes on, in its five ways -/
def Goes (y m d h i k r y2 m2 d2 h2 i2 k2 : Int) : Prop :=
  (i < 59 ∧ y2 = y ∧ m2 = m ∧ d2 = d ∧ h2 = h ∧ i2 = i + 1 ∧ k2 = k) ∨
  (i = 59 ∧ h < 23 ∧ y2 = y ∧ m2 = m ∧ d2 = d ∧ h2 = h + 1 ∧ i2 = 0 ∧ k2 = k) ∨
  (i = 59 ∧ h = 23 ∧ d < r ∧ y2 = y ∧ m2 = m ∧ d2 = d + 1 ∧ h2 = 0 ∧ i2 = 0 ∧ k2 = (k + 1) % 7) ∨
  (i = 59 ∧ h = 23 ∧ d = r ∧ m < 12 ∧ y2 = y ∧ m2 = m + 1 ∧ d2 = 1 ∧ h2 = 0 ∧ i2 = 0 ∧ k2 = (k + 1) % 7) ∨
  (i = 59 ∧ h = 23 ∧ d = r ∧ m = 12 ∧ y2 = y + 1 ∧ m2 = 1 ∧ d2 = 1 ∧ h2 = 0 ∧ i2 = 0 ∧ k2 = (k + 1) % 7)

theorem set_set (W : World) (p : Addr) (a b : Value) : (W.setCell p a).setCell p b = W.setCell p b := by
  unfold World.setCell
  simp only
  congr 1
  apply Array.ext_getElem?
  intro i
  simp only [Array.getElem?_modify]
  by_cases h : p.block = i
  · simp only [h, if_true]
    cases W.heap[i]? with
    | none => rfl
    | some o =>
      cases o <;> simp
      split <;> simp
  · simp [h]

set_option maxHeartbeats 4000000 in
theorem walk_core (t y m d h i k r y2 m2 d2 h2 i2 k2 : Int) (w : World) (h0 : 0 ≤ t) (h1 : t < 226157759) (y0 : 1970 ≤ y) (y1 : y ≤ 2399) (m0 : 1 ≤ m) (m1 : m ≤ 12) (d0 : 1 ≤ d) (d1 : d ≤ r) (r1 : r ≤ 31) (hh0 : 0 ≤ h) (hh1 : h ≤ 23) (i0 : 0 ≤ i) (i1 : i ≤ 59) (k0 : 0 ≤ k) (k1 : k ≤ 6)
    (F1 : Hid (∀ W : World, Calls Try.prog 14 #[.int .i64 t] W fun e w' => e = .returned (.tuple #[civV y m d h i k, .int .i64 0]) ∧ Below W.heap.size W w'))
    (F2 : Hid (∀ W : World, Calls Try.prog 14 #[.int .i64 (t + 1)] W fun e w' => e = .returned (.tuple #[civV y2 m2 d2 h2 i2 k2, .int .i64 0]) ∧ Below W.heap.size W w'))
    (T : Hid (∀ W : World, Calls Try.prog 16 #[civV y m d h i k] W fun e w' => e = .returned (.tuple #[.int .i64 t, .int .i64 0]) ∧ Below W.heap.size W w'))
    (D : Hid (∀ W : World, Calls Try.prog 18 #[.int .i64 y, .int .i64 m] W fun e w' => e = .returned (.int .i64 r) ∧ W = w'))
    (G : Goes y m d h i k r y2 m2 d2 h2 i2 k2) :
    Calls Try.prog 5 #[.int .i64 t] w fun e w' => e = .returned (.bool true) ∧ Below w.heap.size w w' := by
  have q1 : (t == 226157759) = false := by simp; omega
  have hss : ∀ (W : World) (p : Addr) (a b : Value), (W.setCell p a).setCell p b = W.setCell p b := set_set
  rcases G with ⟨g, rfl, rfl, rfl, rfl, rfl, rfl⟩ | ⟨rfl, g, rfl, rfl, rfl, rfl, rfl, rfl⟩ | ⟨rfl, rfl, g, rfl, rfl, rfl, rfl, rfl, rfl⟩ | ⟨rfl, rfl, rfl, g, rfl, rfl, rfl, rfl, rfl, rfl⟩ | ⟨rfl, rfl, rfl, rfl, rfl, rfl, rfl, rfl, rfl, rfl⟩
  all_goals
    go_enter Try.func5, Try.ntmps5
    go_wp2_with fail
    refine (civil_awake _).mono ?_
    rintro e w1 ⟨rfl, hb1⟩
    go_wp2_with fail
    refine (F1.out _).mono ?_
    rintro e w2 ⟨rfl, hb2⟩
    go_wp2_with fail
    refine (T.out _).mono ?_
    rintro e w3 ⟨rfl, hb3⟩
    have hB3 := (Blk.new w2 26 _).bel hb3
    have h23 := bel_al (bel_tr hb1 hb2) hb3
    go_wp2_with fail
    refine (F2.out _).mono ?_
    rintro e w4 ⟨rfl, hb4⟩
    have hB4 := hB3.bel hb4
    have hc := hB4.cells
    have hlt := hB4.lt
    have h24 := bel_tr h23 hb4
    go_wp2_with fail
    go_quiet ((go_at_call 18; exact quiet_of_eq (D.out _)))
    go_wp2_with fail
    go_ret
    refine ⟨rfl, ?_⟩
    have hsz := h24.size
    repeat first | exact h24 | refine bel_set ?_ (by omega) _ _ | refine bel_drewN ?_ _ | refine bel_new ?_ _

theorem goes_mk (t : Int) (h0 : 0 ≤ t) (h1 : t < 226157759) :
    Goes (Cal.yr (t / 1440)) (Cal.mo (t / 1440)) (Cal.dy (t / 1440)) (t % 1440 / 60) (t % 60) ((t / 1440 + 4) % 7) (Cal.dim (Cal.yr (t / 1440)) (Cal.mo (t / 1440)))
      (Cal.yr ((t + 1) / 1440)) (Cal.mo ((t + 1) / 1440)) (Cal.dy ((t + 1) / 1440)) ((t + 1) % 1440 / 60) ((t + 1) % 60) (((t + 1) / 1440 + 4) % 7) := by
  unfold Goes
  by_cases a : t % 60 < 59
  · have e : (t + 1) / 1440 = t / 1440 := by omega
    rw [e]
    exact .inl ⟨a, rfl, rfl, rfl, by omega, by omega, rfl⟩
  · by_cases b : t % 1440 / 60 < 23
    · have e : (t + 1) / 1440 = t / 1440 := by omega
      rw [e]
      exact .inr (.inl ⟨by omega, b, rfl, rfl, rfl, by omega, by omega, rfl⟩)
    · have e : (t + 1) / 1440 = t / 1440 + 1 := by omega
      rw [e]
      rcases next_day (n := t / 1440) (by omega) (by omega) with ⟨g, e1, e2, e3⟩ | ⟨g, g2, e1, e2, e3⟩ | ⟨g, g2, e1, e2, e3⟩
      · exact .inr (.inr (.inl ⟨by omega, by omega, g, e1, e2, e3, by omega, by omega, by omega⟩))
      · exact .inr (.inr (.inr (.inl ⟨by omega, by omega, g, g2, e1, e2, e3, by omega, by omega, by omega⟩)))
      · exact .inr (.inr (.inr (.inr ⟨by omega, by omega, g, g2, e1, e2, e3, by omega, by omega, by omega⟩)))

theorem walk_last (w : World) (F1 : Hid (∀ W : World, Calls Try.prog 14 #[.int .i64 226157759] W fun e w' => e = .returned (.tuple #[civV 2399 12 31 23 59 5, .int .i64 0]) ∧ Below W.heap.size W w'))
    (T : Hid (∀ W : World, Calls Try.prog 16 #[civV 2399 12 31 23 59 5] W fun e w' => e = .returned (.tuple #[.int .i64 226157759, .int .i64 0]) ∧ Below W.heap.size W w')) :
    Calls Try.prog 5 #[.int .i64 226157759] w fun e w' => e = .returned (.bool true) ∧ Below w.heap.size w w' := by
  go_enter Try.func5, Try.ntmps5
  go_wp2_with fail
  refine (civil_awake _).mono ?_
  rintro e w1 ⟨rfl, hb1⟩
  go_wp2_with fail
  refine (F1.out _).mono ?_
  rintro e w2 ⟨rfl, hb2⟩
  go_wp2_with fail
  refine (T.out _).mono ?_
  rintro e w3 ⟨rfl, hb3⟩
  go_wp2_with fail
  go_ret
  exact ⟨rfl, bel_al (bel_tr hb1 hb2) hb3⟩

theorem mins_back {t : Int} (h0 : 0 ≤ t) (h1 : t ≤ 226157759) : mins (Cal.yr (t / 1440)) (Cal.mo (t / 1440)) (Cal.dy (t / 1440)) (t % 1440 / 60) (t % 60) = t := by
  obtain ⟨hk, hnum⟩ := Cal.ymd_ok (n := t / 1440) (by omega) (by omega)
  unfold mins
  rw [hnum]
  omega

theorem walk (t : Int) (w : World) :
    Calls Try.prog 5 #[.int .i64 t] w fun e w' => e = .returned (.bool true) ∧ Below w.heap.size w w' := by
  by_cases hx : t < 0 ∨ 226157759 < t
  · have F : ∀ W : World, Calls Try.prog 14 #[.int .i64 t] W fun e w' => e = .returned (.tuple #[civV 0 0 0 0 0 0, .int .i64 30]) ∧ Below W.heap.size W w' := fun W => from_no t W hx
    have F1 := Lib.hid F
    clear F
    rcases hx with hx | hx
    all_goals
      go_enter Try.func5, Try.ntmps5
      go_wp2_with fail
      refine (civil_awake _).mono ?_
      rintro e w1 ⟨rfl, hb1⟩
      go_wp2_with fail
      refine (F1.out _).mono ?_
      rintro e w2 ⟨rfl, hb2⟩
      go_wp2_with fail
      go_ret
      exact ⟨rfl, bel_new (bel_tr hb1 hb2) _⟩
  · obtain ⟨hk, hnum⟩ := Cal.ymd_ok (n := t / 1440) (by omega) (by omega)
    have T : ∀ W : World, Calls Try.prog 16 #[civV (Cal.yr (t / 1440)) (Cal.mo (t / 1440)) (Cal.dy (t / 1440)) (t % 1440 / 60) (t % 60) ((t / 1440 + 4) % 7)] W fun e w' => e = .returned (.tuple #[.int .i64 t, .int .i64 0]) ∧ Below W.heap.size W w' := fun W =>
      (to_yes _ _ _ _ _ _ W hk (by omega) (by omega) (by omega) (by omega)).mono fun e w' ⟨a, b⟩ => ⟨by rw [a, mins_back (by omega) (by omega)], b⟩
    by_cases hl : t = 226157759
    · subst hl
      obtain ⟨e1, e2, e3⟩ := Cal.ymd_eq (n := 226157759 / 1440) (y := 2399) (m := 12) (d := 31) ⟨by decide, by decide, by decide, by decide, by decide, by decide⟩ (by decide)
      exact walk_last w (Lib.hid fun W => (from_yes 226157759 W (by omega) (by omega)).mono fun e w' ⟨a, b⟩ => ⟨by rw [a, e1, e2, e3]; rfl, b⟩) (Lib.hid fun W => (to_yes 2399 12 31 23 59 5 W ⟨by decide, by decide, by decide, by decide, by decide, by decide⟩ (by decide) (by decide) (by decide) (by decide)).mono fun e w' ⟨a, b⟩ => ⟨by rw [a]; rfl, b⟩)
    · exact walk_core t _ _ _ _ _ _ _ _ _ _ _ _ _ w (by omega) (by omega) hk.y0 hk.y1 hk.m0 hk.m1 hk.d0 hk.d1 (Cal.dim_bd _ _).2 (by omega) (by omega) (by omega) (by omega) (by omega) (by omega)
        (Lib.hid fun W => from_yes t W (by omega) (by omega)) (Lib.hid fun W => from_yes (t + 1) W (by omega) (by omega)) (Lib.hid T) (Lib.hid fun W => days_calls _ _ W) (goes_mk t (by omega) (by omega))

set_option maxRecDepth 100000 in
theorem walks {H : Type} (enc : TypeId × Value → H) : Walks enc Try.prog 5 Try.f5 := by
  intro W base args ds ps hval hA hwt
  rw [Try.params5] at hA hval
  obtain ⟨v0, vs0, d0, ds0, p0, q0, hargs, rfl, rfl, h0, r0⟩ := trodAll_cons hA
  obtain ⟨rfl, rfl, rfl⟩ := trodAll_nil r0
  obtain rfl : args = #[v0] := by cases args; simp_all
  obtain ⟨a0, rfl, rfl, rfl, w0⟩ := open_int Try.underlying2 (hval 0 2 v0 rfl rfl) h0
  exact walk a0 W

set_option maxRecDepth 100000 in
theorem lifted (os : Os) (started : os.Started) (H : Type) (enc : TypeId × Value → H) :
    ReturnsInHanded {} Try.checked os 5 .any (Rows.civilStepsSpec.pre6 enc Try.prog Try.f5 Rows.civilStepsRow.domain false) (Rows.civilStepsSpec.post enc Try.prog Try.f5 false true false false) :=
  frame_lifted (C := Try.checked) own started (by kernel_rfl) Try.func5
    (ChangeSpec.witness6 (enc := enc) (C := Try.checked) false ⟨#[], #[.int .i64 0], []⟩ 8 (by kernel_rfl) (by kernel_rfl) (by kernel_rfl) (by kernel_rfl)) laidOut (by kernel_rfl) rfl (by rfl) Try.underlying4
    (fun ds h => match ds, h with | [d0], _ => ⟨rfl, rfl, rfl⟩) (walks enc)

theorem over : Rows.civilStepsRow.holds Try.pinned (OpenSpec.ofChange Rows.civilStepsSpec) :=
  OpenClaim.holds_of_wide 5 Try.f5 rfl rfl rfl rfl rfl rfl rfl ⟨rfl, rfl, rfl, rfl, rfl⟩ rfl rfl rfl rfl rfl (by kernel_rfl) Try.func5 (by kernel_rfl)
    (of_decide_eq_true (by kernel_rfl)) (by unfold Func.isWrapper; first | (rw [if_pos (by decide +kernel)]; kernel_rfl) | (rw [if_neg (by decide +kernel)]; exact ⟨rfl, rfl⟩))
    (fun os started H enc _ => lifted os started H enc)

/-- the statement -/
theorem proved : Rows.CivilStepsSaid := over
end Go.Proofs.Ytjkaggmnieafjaa.lawCivilSteps
