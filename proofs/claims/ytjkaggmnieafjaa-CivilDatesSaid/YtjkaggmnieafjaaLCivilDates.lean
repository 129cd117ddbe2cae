/-
  The statement CivilDates: every number is the minute by the calendar that the reference says, or none; every date is its instant, or none.
  No condition.
-/
import Derived.Test.YtjkaggmnieafjaaCivA
import Derived.Test.YtjkaggmnieafjaaOpen
namespace Go.Proofs.Ytjkaggmnieafjaa.lawCivilDates
open Go.ChangeShapes Go.WideShapes Go.ChangeAt Go.RowKit
set_option linter.unusedVariables false

/-- what both 'From' answer -/
theorem from_both (t : Int) : ∃ y m d h i k e : Int, (∀ W : World, Calls Try.prog 14 #[.int .i64 t] W fun r w' => r = .returned (.tuple #[civV y m d h i k, .int .i64 e]) ∧ Below W.heap.size W w') ∧
    ∀ W : World, Calls Try.prog 15 #[.int .i64 t] W fun r w' => r = .returned (.tuple #[civV y m d h i k, .int .i64 e]) ∧ Below W.heap.size W w' := by
  by_cases hx : t < 0 ∨ 226157759 < t
  · exact ⟨_, _, _, _, _, _, _, fun W => from_no t W hx, fun W => rfrom_no t W hx⟩
  · refine ⟨_, _, _, _, _, _, _, fun W => from_yes t W (by omega) (by omega), fun W => ?_⟩
    exact rfrom_core t (t / 1440) (t % 1440 / 60) W (by omega) (by omega) (Lib.hid rfl) (Lib.hid (by omega)) (by omega) (by omega)
/-- what both 'To' answer -/
theorem to_both (y m d h i k : Int) : ∃ t e : Int, (∀ W : World, Calls Try.prog 16 #[civV y m d h i k] W fun r w' => r = .returned (.tuple #[.int .i64 t, .int .i64 e]) ∧ Below W.heap.size W w') ∧
    ∀ W : World, Calls Try.prog 17 #[civV y m d h i k] W fun r w' => r = .returned (.tuple #[.int .i64 t, .int .i64 e]) ∧ Below W.heap.size W w' := by
  by_cases hx : d < 1 ∨ Cal.dim y m < d ∨ h < 0 ∨ 23 < h ∨ i < 0 ∨ 59 < i
  · exact ⟨_, _, fun W => to_no y m d h i k W hx, fun W => rto_no y m d h i k W hx⟩
  · have g : Cal.Ok y m d := Cal.Ok.of_day (by omega) (by omega)
    exact ⟨_, _, fun W => to_yes y m d h i k W g (by omega) (by omega) (by omega) (by omega), fun W => rto_yes y m d h i k W g (by omega) (by omega) (by omega) (by omega)⟩

/-- a list of numbers that came in -/
def Nums (w : World) (A : Option Addr) (len : Nat) : Prop := ∀ i, i < len → ∃ b off n, A = some ⟨b, off, none⟩ ∧ b < w.heap.size ∧ w.cell? ⟨b, off + i, none⟩ = some (.int .i64 n)
/-- a list of minutes that came in -/
def Civs (w : World) (A : Option Addr) (len : Nat) : Prop := ∀ i, i < len → ∃ b off y m d h n k, A = some ⟨b, off, none⟩ ∧ b < w.heap.size ∧ w.cell? ⟨b, off + i * 6, none⟩ = some (.int .i64 y) ∧ w.cell? ⟨b, off + i * 6 + 1, none⟩ = some (.int .i64 m) ∧
  w.cell? ⟨b, off + i * 6 + 2, none⟩ = some (.int .i64 d) ∧ w.cell? ⟨b, off + i * 6 + 3, none⟩ = some (.int .i64 h) ∧ w.cell? ⟨b, off + i * 6 + 4, none⟩ = some (.int .i64 n) ∧ w.cell? ⟨b, off + i * 6 + 5, none⟩ = some (.int .i64 k)

set_option maxRecDepth 100000 in
set_option maxHeartbeats 4000000 in
theorem walk (A B : Option Addr) (la ca lb cb : Nat) (w : World) (ha : Hid (Nums w A la)) (hb : Hid (Civs w B lb)) (hla : la ≤ 9223372036854775807) (hlb : lb ≤ 9223372036854775807) :
    Calls Try.prog 3 #[.slice A la ca, .slice B lb cb] w fun e w' => e = .returned (.bool true) ∧ Below w.heap.size w w' := by
  go_enter Try.func3, Try.ntmps3
  go_wp2_with fail
  refine (civil_awake _).mono ?_
  rintro e w1 ⟨rfl, hb1⟩
  go_wp2_with fail
  go_loopg [5] la (fun g v wr => Below w.heap.size w wr ∧ ∃ k : Nat, k ≤ la ∧ k + g = la ∧ v = .int .i64 k)
  case atStart => exact ⟨hb1, 0, by omega, by omega, rfl⟩
  case round =>
    obtain ⟨hbw, k, k0, k1, rfl⟩ := hrel
    have HK := Lib.hid k1
    by_cases hk : k < la ∧ k < 256
    · obtain ⟨hk, hk2⟩ := hk
      have hg : 0 < gk := by omega
      clear k1
      obtain ⟨b, off, n, rfl, hlt, hc⟩ := ha.out k hk
      have hc1 : wr.cell? ⟨b, off + k, none⟩ = some (.int .i64 n) := (hbw.cell (p := ⟨b, off + k, none⟩) hlt).trans hc
      obtain ⟨y, m, d, h, i, q, e0, F1, F2⟩ := from_both n
      have H1 := Lib.hid F1
      have H2 := Lib.hid F2
      clear F1 F2
      go_wp2_with fail
      refine (H1.out _).mono ?_
      rintro e w2 ⟨rfl, hb2⟩
      have hbw2 := bel_new (bel_tr hbw hb2) (.cells (civC y m d h i q) 26)
      have hc2 : (w2.alloc (.cells (civC y m d h i q) 26)).cell? ⟨b, off + k, none⟩ = some (.int .i64 n) := (hbw2.cell (p := ⟨b, off + k, none⟩) hlt).trans hc
      have hl2 : b < w2.heap.size := Nat.lt_of_lt_of_le hlt (bel_tr hbw hb2).size
      have hc2' : w2.cell? ⟨b, off + k, none⟩ = some (.int .i64 n) := ((bel_tr hbw hb2).cell (p := ⟨b, off + k, none⟩) hlt).trans hc
      go_wp2_with fail
      refine (H2.out _).mono ?_
      rintro e w3 ⟨rfl, hb3⟩
      have hB := (Blk.new w2 26 (civC y m d h i q)).bel hb3
      have hcc := hB.cells
      have hll := hB.lt
      go_wp2_with fail
      all_goals
        go_roundg (gk - 1)
        case rel =>
          have := HK.out
          exact ⟨bel_new (bel_tr hbw2 hb3) _, k + 1, by omega, by omega, by go_num⟩
        case measure => omega
    · clear k1
      have hcase : la ≤ k ∨ k < la ∧ 256 ≤ k := by omega
      clear hk
      rcases hcase with hk | ⟨hk, hk2⟩
      all_goals
        go_wp2_with fail
        clear HK ha
        go_loopg [10] lb (fun g v wr => Below w.heap.size w wr ∧ ∃ k : Nat, k ≤ lb ∧ k + g = lb ∧ v = .int .i64 k)
        case atStart => exact ⟨hbw, 0, by omega, by omega, rfl⟩
        case round =>
          clear hbw
          obtain ⟨hbw, j, j0, j1, rfl⟩ := hrel
          have HJ := Lib.hid j1
          by_cases hj : j < lb ∧ j < 256
          · obtain ⟨hj, hj2⟩ := hj
            have hg : 0 < gk := by omega
            clear j1
            obtain ⟨b, off, y, m, d, h, n, q, rfl, hlt, x0, x1, x2, x3, x4, x5⟩ := hb.out j hj
            have keep : ∀ (W : World) (o : Nat) (v : Value), Below w.heap.size w W → w.cell? ⟨b, o, none⟩ = some v → W.cell? ⟨b, o, none⟩ = some v := fun W o v hB hv => (hB.cell (p := ⟨b, _, none⟩) hlt).trans hv
            have KEEP := Lib.hid keep
            clear keep
            have y0 := KEEP.out _ _ _ hbw x0
            have y1 := KEEP.out _ _ _ hbw x1
            have y2 := KEEP.out _ _ _ hbw x2
            have y3 := KEEP.out _ _ _ hbw x3
            have y4 := KEEP.out _ _ _ hbw x4
            have y5 := KEEP.out _ _ _ hbw x5
            obtain ⟨t, e0, F1, F2⟩ := to_both y m d h n q
            have H1 := Lib.hid F1
            have H2 := Lib.hid F2
            clear F1 F2
            go_wp2_with fail
            refine (H1.out _).mono ?_
            rintro e w2 ⟨rfl, hb2⟩
            have hbw2 := bel_tr hbw hb2
            have z0 := KEEP.out _ _ _ hbw2 x0
            have z1 := KEEP.out _ _ _ hbw2 x1
            have z2 := KEEP.out _ _ _ hbw2 x2
            have z3 := KEEP.out _ _ _ hbw2 x3
            have z4 := KEEP.out _ _ _ hbw2 x4
            have z5 := KEEP.out _ _ _ hbw2 x5
            go_wp2_with fail
            refine (H2.out _).mono ?_
            rintro e w3 ⟨rfl, hb3⟩
            go_wp2_with fail
            all_goals
              go_roundg (gk - 1)
              case rel =>
                have := HJ.out
                exact ⟨bel_tr hbw2 hb3, j + 1, by omega, by omega, by go_num⟩
              case measure => omega
          · clear j1
            have hcase : lb ≤ j ∨ j < lb ∧ 256 ≤ j := by omega
            clear hj
            rcases hcase with hj | ⟨hj, hj2⟩
            all_goals
              go_wp2_with fail
              go_ret
              exact ⟨rfl, hbw⟩

set_option maxRecDepth 100000 in
theorem walks {H : Type} (enc : TypeId × Value → H) : Walks enc Try.prog 3 Try.f3 := by
  intro W base args ds ps hval hA hwt
  rw [Try.params3] at hA hval hwt
  obtain ⟨v0, vs0, d0, ds0, p0, q0, hargs, rfl, rfl, h0, r0⟩ := trodAll_cons hA
  obtain ⟨v1, vs1, d1, ds1, p1, q1, rfl, rfl, rfl, h1, r1⟩ := trodAll_cons r0
  obtain ⟨rfl, rfl, rfl⟩ := trodAll_nil r1
  obtain rfl : args = #[v0, v1] := by cases args; simp_all
  have u0 := weightsEach_at (i := 0) hwt rfl rfl
  have u1 := weightsEach_at (i := 1) hwt rfl rfl
  obtain ⟨A, la, ca, rfl, la1, ca1, _, ea⟩ := open_arg_slice (n := 2) (ts := [2]) Try.underlying22 (by kernel_rfl) (by kernel_rfl) (by decide) (hval 0 22 v0 rfl rfl) h0 u0
  obtain ⟨B, lb, cb, rfl, lb1, cb1, _, eb⟩ := open_arg_slice (n := 2) (ts := [3, 3, 3, 3, 3, 3]) Try.underlying23 (by kernel_rfl) (by kernel_rfl) (by decide) (hval 1 23 v1 rfl rfl) h1 u1
  unfold maxLen at ca1 cb1
  refine walk A B la ca lb cb W (Lib.hid fun i hi => ?_) (Lib.hid fun i hi => ?_) (by omega) (by omega)
  · obtain ⟨b, off, vs, rfl, hlt, hlen, hc, hL⟩ := ea i (by omega)
    obtain ⟨n, vs', rfl, _, hL⟩ := leaf_int Try.underlying2 hL
    exact ⟨b, off, n, rfl, hlt, by simpa using hc 0 _ rfl⟩
  · obtain ⟨b, off, vs, rfl, hlt, hlen, hc, hL⟩ := eb i (by omega)
    obtain ⟨y, vs', rfl, _, hL⟩ := leaf_int Try.underlying3 hL
    obtain ⟨m, vs', rfl, _, hL⟩ := leaf_int Try.underlying3 hL
    obtain ⟨d, vs', rfl, _, hL⟩ := leaf_int Try.underlying3 hL
    obtain ⟨h, vs', rfl, _, hL⟩ := leaf_int Try.underlying3 hL
    obtain ⟨n, vs', rfl, _, hL⟩ := leaf_int Try.underlying3 hL
    obtain ⟨k, vs', rfl, _, hL⟩ := leaf_int Try.underlying3 hL
    exact ⟨b, off, y, m, d, h, n, k, rfl, hlt, by simpa using hc 0 _ rfl, by simpa using hc 1 _ rfl, by simpa using hc 2 _ rfl, by simpa using hc 3 _ rfl, by simpa using hc 4 _ rfl, by simpa using hc 5 _ rfl⟩

set_option maxRecDepth 100000 in
theorem lifted (os : Os) (started : os.Started) (H : Type) (enc : TypeId × Value → H) :
    ReturnsInHanded {} Try.checked os 3 .any (Rows.civilDatesSpec.pre6 enc Try.prog Try.f3 Rows.civilDatesRow.domain false) (Rows.civilDatesSpec.post enc Try.prog Try.f3 false true false false) :=
  frame_lifted (C := Try.checked) own started (by kernel_rfl) Try.func3
    (ChangeSpec.witness6 (enc := enc) (C := Try.checked) false ⟨#[], #[.slice none 0 0, .slice none 0 0], []⟩ 8 (by kernel_rfl) (by kernel_rfl) (by kernel_rfl) (by kernel_rfl)) laidOut (by kernel_rfl) rfl (by rfl) Try.underlying4
    (fun ds h => match ds, h with | [d0, d1], _ => ⟨rfl, rfl, rfl⟩) (walks enc)

theorem over : Rows.civilDatesRow.holds Try.pinned (OpenSpec.ofChange Rows.civilDatesSpec) :=
  OpenClaim.holds_of_wide 3 Try.f3 rfl rfl rfl rfl rfl rfl rfl ⟨rfl, rfl, rfl, rfl, rfl⟩ rfl rfl rfl rfl rfl (by kernel_rfl) Try.func3 (by kernel_rfl)
    (of_decide_eq_true (by kernel_rfl)) (by unfold Func.isWrapper; first | (rw [if_pos (by decide +kernel)]; kernel_rfl) | (rw [if_neg (by decide +kernel)]; exact ⟨rfl, rfl⟩))
    (fun os started H enc _ => lifted os started H enc)

/-- the statement -/
theorem proved : Rows.CivilDatesSaid := over
end Go.Proofs.Ytjkaggmnieafjaa.lawCivilDates
