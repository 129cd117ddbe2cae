/-
  The statement CivilNth: the n-th weekday of a month is that weekday, the next one comes seven days later, the last one is the fourth or the one behind it.
  No condition.
-/
import Derived.Test.YtjkaggmnieafjaaCivA
import Derived.Test.YtjkaggmnieafjaaFrame
namespace Go.Proofs.Ytjkaggmnieafjaa.lawCivilNth
open Go.ChangeShapes Go.WideShapes Go.ChangeAt Go.RowKit
set_option linter.unusedVariables false

theorem from_day (n : Int) (w : World) (h0 : 0 ≤ n) (h1 : n ≤ 157053) :
    Calls Try.prog 14 #[.int .i64 (n * 1440)] w fun e w' => (∃ y m d h i, e = .returned (.tuple #[civV y m d h i ((n + 4) % 7), .int .i64 0])) ∧ Below w.heap.size w w' :=
  (from_yes (n * 1440) w (by omega) (by omega)).mono fun e w' ⟨a, b⟩ => ⟨⟨Cal.yr n, Cal.mo n, Cal.dy n, n * 1440 % 1440 / 60, n * 1440 % 60, by rw [a, show n * 1440 / 1440 = n from by omega]⟩, b⟩

set_option maxHeartbeats 2000000 in
theorem walk_core (y m d r q f l : Int) (w : World) (hf0 : 1 ≤ f) (hf1 : f ≤ 7) (r0 : 28 ≤ r) (r1 : r ≤ 31) (q0 : 0 ≤ q) (q1 : q + r ≤ 157054) (d0 : 0 ≤ d) (d1 : d ≤ 6) (hw : Hid ((q + f - 1 + 4) % 7 = d))
    (hl : l = f + 21 ∨ l = f + 28) (hl1 : l ≤ r) (hl2 : r < l + 7)
    (D : Hid (∀ W : World, Calls Try.prog 18 #[.int .i64 y, .int .i64 m] W fun e w' => e = .returned (.int .i64 r) ∧ W = w'))
    (N : Hid (∀ (k : Int) (W : World), 1 ≤ k → k ≤ 4 → Calls Try.prog 20 #[.int .i64 y, .int .i64 m, .int .i64 k, .int .i64 d] W fun e w' => e = .returned (.int .i64 (f + 7 * (k - 1))) ∧ W = w'))
    (N5 : Hid (∀ W : World, Calls Try.prog 20 #[.int .i64 y, .int .i64 m, .int .i64 5, .int .i64 d] W fun e w' => e = .returned (.int .i64 l) ∧ W = w'))
    (T : Hid (∀ (n : Int) (W : World), 1 ≤ n → n ≤ r → Calls Try.prog 16 #[civV y m n 0 0 0] W fun e w' => e = .returned (.tuple #[.int .i64 ((q + n - 1) * 1440), .int .i64 0]) ∧ Below W.heap.size W w')) :
    Calls Try.prog 7 #[.int .i64 y, .int .i64 m, .int .i64 d] w fun e w' => e = .returned (.bool true) ∧ Below w.heap.size w w' := by
  have N1 : ∀ W : World, Calls Try.prog 20 #[.int .i64 y, .int .i64 m, .int .i64 1, .int .i64 d] W fun e w' => e = .returned (.int .i64 f) ∧ W = w' := fun W => by
    have := N.out 1 W (by omega) (by omega)
    simpa using this
  have N1H := Lib.hid N1
  clear N1
  have z0 : (f == 0) = false := by simp; omega
  have z1 : decide (7 < f) = false := dec_f (by omega)
  have HL := Lib.hid hl
  clear hl
  go_enter Try.func7, Try.ntmps7
  go_wp2_with fail
  refine (civil_awake _).mono ?_
  rintro e w1 ⟨rfl, hb1⟩
  go_wp2_with fail
  refine (N1H.out _).mono ?_
  rintro e w' ⟨rfl, rfl⟩
  go_wp2_with fail
  refine (D.out _).mono ?_
  rintro e w' ⟨rfl, rfl⟩
  go_wp2_with fail
  clear N1H D
  go_loopg [9] 4 (fun g v wr => Below w.heap.size w wr ∧ ∃ k : Int, 1 ≤ k ∧ k + g = 5 ∧ v = .int .i64 k)
  case atStart => exact ⟨hb1, 1, by omega, by omega, rfl⟩
  case round =>
    obtain ⟨hbw, k, k0, k1, rfl⟩ := hrel
    have HK := Lib.hid k1
    by_cases hk : k ≤ 4
    · have hg : 0 < gk := by omega
      clear k1
      go_wp2_with fail
      refine (N.out k _ k0 hk).mono ?_
      rintro e w' ⟨rfl, rfl⟩
      go_wp2_with fail
      refine (T.out (f + 7 * (k - 1)) _ (by omega) (by omega)).mono ?_
      rintro e w2 ⟨rfl, hb2⟩
      go_wp2_with fail
      refine (from_day (q + (f + 7 * (k - 1)) - 1) _ (by omega) (by omega)).mono ?_
      rintro e w3 ⟨⟨cy, cm, cd, ch, ci, rfl⟩, hb3⟩
      have hwk : ((q + (f + 7 * (k - 1)) - 1 + 4) % 7 == d) = true := by have := hw.out; simp; omega
      have hwk2 : ((q + (f + 7 * (k - 1)) - 1 + 4) % 7 != d) = false := by have := hw.out; simp; omega
      go_wp2_with fail
      all_goals
        go_roundg (gk - 1)
        case rel =>
          have := HK.out
          exact ⟨bel_new (bel_tr (bel_tr hbw hb2) hb3) _, k + 1, by omega, by omega, rfl⟩
        case measure => omega
    · have hk5 : k = 5 := by omega
      subst hk5
      clear k1
      go_wp2_with fail
      refine (N5.out _).mono ?_
      rintro e w' ⟨rfl, rfl⟩
      rcases HL.out with rfl | rfl
      all_goals
        go_wp2_with fail
        go_ret
        exact ⟨rfl, hbw⟩

theorem walk (y m d : Int) (w : World) :
    Calls Try.prog 7 #[.int .i64 y, .int .i64 m, .int .i64 d] w fun e w' => e = .returned (.bool true) ∧ Below w.heap.size w w' := by
  by_cases hx : Cal.dim y m = 0 ∨ d < 0 ∨ 6 < d
  · have hn : nthF y m 1 d = 0 := by unfold nthF; rw [if_pos (by omega)]
    have N1 : ∀ W : World, Calls Try.prog 20 #[.int .i64 y, .int .i64 m, .int .i64 1, .int .i64 d] W fun e w' => e = .returned (.int .i64 0) ∧ W = w' := fun W => by
      have := nth_calls y m 1 d W
      rwa [hn] at this
    have N := Lib.hid N1
    clear N1 hn
    have D1 : ∀ W : World, Calls Try.prog 18 #[.int .i64 y, .int .i64 m] W fun e w' => e = .returned (.int .i64 (Cal.dim y m)) ∧ W = w' := fun W => days_calls y m W
    generalize Cal.dim y m = r at *
    have D := Lib.hid D1
    clear D1
    rcases hx with rfl | hx | hx
    · go_enter Try.func7, Try.ntmps7
      go_wp2_with fail
      refine (civil_awake _).mono ?_
      rintro e w1 ⟨rfl, hb1⟩
      go_wp2_with fail
      refine (N.out _).mono ?_
      rintro e w' ⟨rfl, rfl⟩
      go_wp2_with fail
      refine (D.out _).mono ?_
      rintro e w' ⟨rfl, rfl⟩
      go_wp2_with fail
      all_goals
        go_ret
        exact ⟨rfl, hb1⟩
    all_goals
      by_cases hr : r = 0
      all_goals
        have hb : (r == 0) = decide (r = 0) := by rw [Bool.eq_iff_iff]; simp
        simp only [hr, decide_true, decide_false] at hb
        go_enter Try.func7, Try.ntmps7
        go_wp2_with fail
        refine (civil_awake _).mono ?_
        rintro e w1 ⟨rfl, hb1⟩
        go_wp2_with fail
        refine (N.out _).mono ?_
        rintro e w' ⟨rfl, rfl⟩
        go_wp2_with fail
        refine (D.out _).mono ?_
        rintro e w' ⟨rfl, rfl⟩
        go_wp2_with fail
        all_goals
          go_ret
          exact ⟨rfl, hb1⟩
  · have hd := Cal.dim_bd y m
    obtain ⟨g0, g1, g2, g3⟩ := Cal.dim_pos_iff (y := y) (m := m) (by omega)
    have hp := Cal.dim_pos g0 g1 g2 g3
    have hq := Cal.num_rng (y := y) (m := m) (d := 1) ⟨g0, g1, g2, g3, by omega, by omega⟩
    have hq2 := Cal.num_rng (y := y) (m := m) (d := Cal.dim y m) ⟨g0, g1, g2, g3, by omega, by omega⟩
    have hn : ∀ n, Cal.num y m n = Cal.num y m 1 + n - 1 := fun n => by unfold Cal.num; omega
    have hf0 : 1 ≤ fstDay y m d := by unfold fstDay; omega
    have hf1 : fstDay y m d ≤ 7 := by unfold fstDay; omega
    refine walk_core y m d (Cal.dim y m) (Cal.num y m 1) (fstDay y m d) (nthF y m 5 d) w hf0 hf1 hp hd.2 hq.1 (by have := hn (Cal.dim y m); omega) (by omega) (by omega)
      (Lib.hid (by unfold fstDay; omega)) ?_ ?_ ?_ (Lib.hid fun W => days_calls y m W) (Lib.hid fun k W k0 k1 => ?_) (Lib.hid fun W => nth_calls y m 5 d W) (Lib.hid fun n W n0 n1 => ?_)
    · unfold nthF; rw [if_neg (by omega), if_neg (by omega)]; split <;> omega
    · unfold nthF; rw [if_neg (by omega), if_neg (by omega)]; split <;> omega
    · unfold nthF; rw [if_neg (by omega), if_neg (by omega)]; split <;> omega
    · have := nth_calls y m k d W
      have e : nthF y m k d = fstDay y m d + 7 * (k - 1) := by unfold nthF; rw [if_neg (by omega), if_pos k1]
      rwa [e] at this
    · have := to_yes y m n 0 0 0 W ⟨g0, g1, g2, g3, n0, n1⟩ (by omega) (by omega) (by omega) (by omega)
      have e : mins y m n 0 0 = (Cal.num y m 1 + n - 1) * 1440 := by unfold mins; rw [hn n]; omega
      rwa [e] at this

set_option maxRecDepth 100000 in
theorem walks {H : Type} (enc : TypeId × Value → H) : Walks enc Try.prog 7 Try.f7 := by
  intro W base args ds ps hval hA hwt
  rw [Try.params7] at hA hval
  obtain ⟨v0, vs0, d0, ds0, p0, q0, hargs, rfl, rfl, h0, r0⟩ := trodAll_cons hA
  obtain ⟨v1, vs1, d1, ds1, p1, q1, rfl, rfl, rfl, h1, r1⟩ := trodAll_cons r0
  obtain ⟨v2, vs2, d2, ds2, p2, q2, rfl, rfl, rfl, h2, r2⟩ := trodAll_cons r1
  obtain ⟨rfl, rfl, rfl⟩ := trodAll_nil r2
  obtain rfl : args = #[v0, v1, v2] := by cases args; simp_all
  obtain ⟨a0, rfl, rfl, rfl, w0⟩ := open_int Try.underlying3 (hval 0 3 v0 rfl rfl) h0
  obtain ⟨a1, rfl, rfl, rfl, w1⟩ := open_int Try.underlying3 (hval 1 3 v1 rfl rfl) h1
  obtain ⟨a2, rfl, rfl, rfl, w2⟩ := open_int Try.underlying3 (hval 2 3 v2 rfl rfl) h2
  exact walk a0 a1 a2 W

set_option maxRecDepth 100000 in
theorem lifted (os : Os) (started : os.Started) (H : Type) (enc : TypeId × Value → H) :
    ReturnsInHanded {} Try.checked os 7 .any (Rows.civilNthSpec.pre6 enc Try.prog Try.f7 Rows.civilNthRow.domain false) (Rows.civilNthSpec.post enc Try.prog Try.f7 false true false false) :=
  frame_lifted (C := Try.checked) own started (by kernel_rfl) Try.func7
    (ChangeSpec.witness6 (enc := enc) (C := Try.checked) false ⟨#[], #[.int .i64 0, .int .i64 0, .int .i64 0], []⟩ 8 (by kernel_rfl) (by kernel_rfl) (by kernel_rfl) (by kernel_rfl)) laidOut (by kernel_rfl) rfl (by rfl) Try.underlying4
    (fun ds h => match ds, h with | [d0, d1, d2], _ => ⟨rfl, rfl, rfl⟩) (walks enc)

theorem over : Rows.civilNthRow.holds Try.pinned (OpenSpec.ofChange Rows.civilNthSpec) :=
  OpenClaim.holds_of_wide 7 Try.f7 rfl rfl rfl rfl rfl rfl rfl ⟨rfl, rfl, rfl, rfl, rfl⟩ rfl rfl rfl rfl rfl (by kernel_rfl) Try.func7 (by kernel_rfl)
    (of_decide_eq_true (by kernel_rfl)) (by unfold Func.isWrapper; first | (rw [if_pos (by decide +kernel)]; kernel_rfl) | (rw [if_neg (by decide +kernel)]; exact ⟨rfl, rfl⟩))
    (fun os started H enc _ => lifted os started H enc)

/-- the statement -/
theorem proved : Rows.CivilNthSaid := over
end Go.Proofs.Ytjkaggmnieafjaa.lawCivilNth
