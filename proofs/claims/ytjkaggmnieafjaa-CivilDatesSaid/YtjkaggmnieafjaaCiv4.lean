/-
  Contracts of civil.Nth and of the reference's year, From, To.
  Conditions: each theorem's own bounds.
-/
import Derived.Test.YtjkaggmnieafjaaCiv3
import Derived.Deep.RegionHeld3
namespace Go.Proofs.Ytjkaggmnieafjaa
open Go.RowKit
set_option linter.unusedVariables false

theorem nth_yes_core (y m k d r q : Int) (w : World) (hr : Hid (Cal.dim y m = r)) (hq : Hid (Cal.num y m 1 = q)) (g0 : 1970 ≤ y) (g1 : y ≤ 2399) (g2 : 1 ≤ m) (g3 : m ≤ 12)
    (r0 : 28 ≤ r) (r1 : r ≤ 31) (q0 : 0 ≤ q) (q1 : q ≤ 157053) (k0 : 1 ≤ k) (k1 : k ≤ 5) (d0 : 0 ≤ d) (d1 : d ≤ 6) (x : Int)
    (hx : Hid (x = if k ≤ 4 then 1 + (d - (q + 4) % 7 + 7) % 7 + 7 * (k - 1) else if 1 + (d - (q + 4) % 7 + 7) % 7 + 28 ≤ r then 1 + (d - (q + 4) % 7 + 7) % 7 + 28 else 1 + (d - (q + 4) % 7 + 7) % 7 + 21)) :
    Calls Try.prog 20 #[.int .i64 y, .int .i64 m, .int .i64 k, .int .i64 d] w fun e w' => e = .returned (.int .i64 x) ∧ w = w' := by
  have HD : ∀ W : World, Calls Try.prog 18 #[.int .i64 y, .int .i64 m] W fun e w' => e = .returned (.int .i64 r) ∧ W = w' := fun W =>
    (days_calls y m W).mono fun e w' ⟨a, b⟩ => ⟨by rw [a, hr.out], b⟩
  have H := Lib.hid HD
  have ND : ∀ W : World, Calls Try.prog 33 #[.int .i64 y, .int .i64 m, .int .i64 1] W fun e w' => e = .returned (.int .i64 q) ∧ W = w' := fun W =>
    (number_calls y m 1 W (by omega) (by omega) g2 g3 (by omega) (by omega)).mono fun e w' ⟨a, b⟩ => ⟨by rw [a, hq.out], b⟩
  have N := Lib.hid ND
  clear HD ND
  have b0 : (r == 0) = false := by simp; omega
  have b1 : decide (k < 1) = false := dec_f (by omega)
  have b2 : decide (5 < k) = false := dec_f (by omega)
  have b3 : decide (d < 0) = false := dec_f (by omega)
  have b4 : decide (6 < d) = false := dec_f (by omega)
  have e1 : (d - (q + 4) % 7 + 7) % 7 = (d - (q + 4)) % 7 := by omega
  have E1 := Lib.hid e1
  rw [e1] at hx
  clear e1
  by_cases hk : k = 5
  · subst hk
    go_enter Try.func20, Try.ntmps20
    go_wp2_with (first | (go_at_call 18; refine (H.out _).mono ?_; rintro e w' ⟨rfl, rfl⟩) | (go_at_call 33; refine (N.out _).mono ?_; rintro e w' ⟨rfl, rfl⟩))
    rw [E1.out]
    have f0 : 0 ≤ (d - (q + 4)) % 7 := by omega
    have f1 : (d - (q + 4)) % 7 ≤ 6 := by omega
    clear E1
    generalize (d - (q + 4)) % 7 = f at *
    go_loopg [11] 1 (fun k v w' => w' = w ∧ ∃ n : Int, v = .int .i64 n ∧ (k = 1 ∧ n = 1 + f + 28 ∨ k = 0 ∧ r < 1 + f + 28 ∧ n = 1 + f + 21))
    case atStart => exact ⟨rfl, _, rfl, .inl ⟨rfl, rfl⟩⟩
    case round =>
      obtain ⟨rfl, n, rfl, hn⟩ := hrel
      rcases hn with ⟨rfl, rfl⟩ | ⟨rfl, hlt, rfl⟩
      · by_cases hz : r < 1 + f + 28
        · go_wp2_with fail
          go_roundg 0
          case rel => exact ⟨rfl, _, rfl, .inr ⟨rfl, hz, by omega⟩⟩
          case measure => omega
        · have hz2 : decide (1 + f + 28 + 7 ≤ r) = false := dec_f (by omega)
          go_wp2_with fail
          go_ret
          exact ⟨ret_int (by rw [hx.out, if_neg (by omega), if_pos (by omega)]), rfl⟩
      · have hz2 : decide (1 + f + 21 + 7 ≤ r) = false := dec_f (by omega)
        go_wp2_with fail
        go_ret
        exact ⟨ret_int (by rw [hx.out, if_neg (by omega), if_neg (by omega)]), rfl⟩
  · have b5 : (k == 5) = false := by simpa using hk
    go_enter Try.func20, Try.ntmps20
    go_wp2_with (first | (go_at_call 18; refine (H.out _).mono ?_; rintro e w' ⟨rfl, rfl⟩) | (go_at_call 33; refine (N.out _).mono ?_; rintro e w' ⟨rfl, rfl⟩))
    rw [E1.out]
    have f0 : 0 ≤ (d - (q + 4)) % 7 := by omega
    have f1 : (d - (q + 4)) % 7 ≤ 6 := by omega
    clear E1
    generalize (d - (q + 4)) % 7 = f at *
    go_loopg [11] 0 (fun k' v w' => w' = w ∧ v = .int .i64 (1 + f + 7 * (k - 1)))
    case atStart => exact ⟨rfl, rfl⟩
    case round =>
      obtain ⟨rfl, rfl⟩ := hrel
      go_wp2_with fail
      go_ret
      exact ⟨ret_int (by rw [hx.out, if_pos (by omega)]), rfl⟩

theorem nth_calls (y m k d : Int) (w : World) :
    Calls Try.prog 20 #[.int .i64 y, .int .i64 m, .int .i64 k, .int .i64 d] w fun e w' => e = .returned (.int .i64 (nthF y m k d)) ∧ w = w' := by
  by_cases hx : Cal.dim y m = 0 ∨ k < 1 ∨ 5 < k ∨ d < 0 ∨ 6 < d
  · have h0 : nthF y m k d = 0 := by unfold nthF; rw [if_pos hx]
    rw [h0]
    exact nth_no_core y m k d _ w (Lib.hid rfl) hx
  · have hd := Cal.dim_bd y m
    obtain ⟨g0, g1, g2, g3⟩ := Cal.dim_pos_iff (y := y) (m := m) (by omega)
    have hp := Cal.dim_pos g0 g1 g2 g3
    have hq := Cal.num_rng (y := y) (m := m) (d := 1) ⟨g0, g1, g2, g3, by omega, by omega⟩
    exact nth_yes_core y m k d _ _ w (Lib.hid rfl) (Lib.hid rfl) g0 g1 g2 g3 hp hd.2 hq.1 hq.2 (by omega) (by omega) (by omega) (by omega) _ (Lib.hid (by unfold nthF fstDay; rw [if_neg hx]))

theorem ryear_calls (y : Int) (w : World) (h0 : 0 ≤ y) :
    Calls Try.prog 34 #[.int .i64 y] w fun e w' => e = .returned (.int .i64 (365 + Cal.lp y)) ∧ w = w' := by
  have hl := lp_leapB y
  rcases hL : leapB y with _ | _
  all_goals
    rw [hL] at hl
    have HL := Lib.hid hl
    clear hl
    go_enter Try.func34, Try.ntmps34
    go_wp2_with (go_at_call 36; refine (rleap_calls _ _ (by omega)).mono ?_; rintro e w' ⟨rfl, rfl⟩)
    go_ret
    exact ⟨ret_int (by rw [HL.out]; simp), rfl⟩

theorem rfrom_no (t : Int) (w : World) (h : t < 0 ∨ 226157759 < t) :
    Calls Try.prog 15 #[.int .i64 t] w fun e w' => e = .returned (.tuple #[civV 0 0 0 0 0 0, .int .i64 30]) ∧ Below w.heap.size w w' := by
  rcases h with h | h
  all_goals
    go_enter Try.func15, Try.ntmps15
    go_wp2_with fail
    exact bodyPost_ret (v := .tuple #[civV 0 0 0 0 0 0, .int .i64 30]) (by simp [results, Try.results15, go_sem]) rfl ⟨rfl, (Below.refl _ _).alloc (Nat.le_refl _) _⟩

theorem lp_bd (y : Int) : 365 ≤ 365 + Cal.lp y ∧ 365 + Cal.lp y ≤ 366 := by have := Cal.lp_01 y; omega

set_option maxHeartbeats 2000000 in
theorem rfrom_core (t N h : Int) (w : World) (h0 : 0 ≤ t) (h1 : t ≤ 226157759) (hN : Hid (t / 1440 = N)) (hh : Hid (t / 60 % 24 = h)) (n0 : 0 ≤ N) (n1 : N ≤ 157053) :
    Calls Try.prog 15 #[.int .i64 t] w fun e w' => e = .returned (.tuple #[civV (Cal.yr N) (Cal.mo N) (Cal.dy N) h (t % 60) ((N + 4) % 7), .int .i64 0]) ∧ Below w.heap.size w w' := by
  go_enter Try.func15, Try.ntmps15
  go_wp2_with fail
  rw [hN.out, hh.out]
  go_loopg [4] 429 (fun k v wr => ∃ y : Int, 1970 ≤ y ∧ y + k ≤ 2399 ∧ 2399 ≤ y + k ∧ Cal.dby y ≤ N ∧ v = .int .i64 (N - Cal.dby y) ∧
    wr = (w.alloc (.cells (civC 0 0 0 0 0 0) 26)).alloc (.cells (civC y 1 0 h (t % 60) ((N + 4) % 7)) 26))
  case atStart => exact ⟨1970, by omega, by omega, by omega, by rw [Cal.dby_1970]; omega, by rw [Cal.dby_1970]; simp, rfl⟩
  case round =>
    obtain ⟨y, hy0, hy1, hy2, hy3, rfl, rfl⟩ := hrel
    have hs := Cal.dby_succ y
    have hl := lp_bd y
    have hb := Cal.dby_mono hy0
    rw [Cal.dby_1970] at hb
    by_cases hc : Cal.dby (y + 1) ≤ N
    · have hge : 365 + Cal.lp y ≤ N - Cal.dby y := by omega
      have hy4 : y < 2399 := by
        by_cases e : y = 2399
        · have : Cal.dby (y + 1) = 157054 := by rw [e]; exact Cal.dby_2400
          omega
        · omega
      have HS := Lib.hid hs
      clear hs
      go_wp2_with (go_at_call 34; refine (ryear_calls _ _ (by omega)).mono ?_; rintro e w' ⟨rfl, rfl⟩)
      go_roundg (gk - 1)
      case rel => exact ⟨y + 1, by omega, by omega, by omega, hc, by rw [HS.out]; congr 1; omega, rfl⟩
      case measure => omega
    · have hlt : N - Cal.dby y < 365 + Cal.lp y := by omega
      have HS := Lib.hid hs
      clear hs hc
      go_wp2_with (go_at_call 34; refine (ryear_calls _ _ (by omega)).mono ?_; rintro e w' ⟨rfl, rfl⟩)
      have hB0 : Blk ((w.alloc (.cells (civC 0 0 0 0 0 0) 26)).alloc (.cells (civC y 1 0 h (t % 60) ((N + 4) % 7)) 26)) w.heap.size 26 (civC 0 0 0 0 0 0) := (Blk.new _ _ _).alloc _
      have hB1 : Blk ((w.alloc (.cells (civC 0 0 0 0 0 0) 26)).alloc (.cells (civC y 1 0 h (t % 60) ((N + 4) % 7)) 26)) (w.heap.size + 1) 26 (civC y 1 0 h (t % 60) ((N + 4) % 7)) := by
        have := Blk.new (w.alloc (.cells (civC 0 0 0 0 0 0) 26)) 26 (civC y 1 0 h (t % 60) ((N + 4) % 7))
        simpa using this
      go_loopg [4] 11 (fun k v wr => ∃ m : Int, 1 ≤ m ∧ m + k ≤ 12 ∧ 12 ≤ m + k ∧ Cal.dby y + Cal.cum y m ≤ N ∧ v = .int .i64 (N - Cal.dby y - Cal.cum y m) ∧
        Below w.heap.size w wr ∧ Blk wr w.heap.size 26 (civC 0 0 0 0 0 0) ∧ Blk wr (w.heap.size + 1) 26 (civC y m 0 h (t % 60) ((N + 4) % 7)))
      case atStart => exact ⟨1, by omega, by omega, by omega, by rw [Cal.cum_1]; omega, by rw [Cal.cum_1]; simp, ((Below.refl _ _).alloc (Nat.le_refl _) _).alloc (by simp) _, hB0, hB1⟩
      case round =>
        obtain ⟨m, hm0, hm1, hm2, hm3, rfl, hbel, hB0', hB1'⟩ := hrel
        clear hB0 hB1
        have hy4 : y ≤ 2399 := by omega
        have hcs := Cal.cum_succ y m hy0 hy4 hm0 (by omega)
        have hcb := Cal.cum_bd y m hy0 hy4 hm0 (by omega)
        have hdb := Cal.dim_bd y m
        have c1 := hB1'.cells
        have hsz := hB1'.lt
        by_cases hc : Cal.dby y + Cal.cum y (m + 1) ≤ N
        · have hge : Cal.dim y m ≤ N - Cal.dby y - Cal.cum y m := by omega
          have hm4 : m < 12 := by
            by_cases e : m = 12
            · have : Cal.cum y (m + 1) = 365 + Cal.lp y := by rw [e]; exact Cal.cum_13 y
              omega
            · omega
          have HC := Lib.hid hcs
          clear hcs
          go_wp2_with fail
          refine (rdays_calls _ _ _).mono ?_
          rintro e w1 ⟨rfl, hb1⟩
          have hB1a := hB1'.bel hb1
          have hB0a := hB0'.bel hb1
          have c1a := hB1a.cells
          go_wp2_with fail
          refine (rdays_calls _ _ _).mono ?_
          rintro e w2 ⟨rfl, hb2⟩
          have hB1b := hB1a.bel hb2
          have hB0b := hB0a.bel hb2
          have c1b := hB1b.cells
          have c1f := hB1b.free
          go_wp2_with fail
          go_roundg (gk - 1)
          case rel =>
            refine ⟨m + 1, by omega, by omega, by omega, hc, by rw [HC.out]; congr 1; omega, ?_, ?_, ?_⟩
            · exact ((hbel.trans (hb1.mono hbel.size)).trans (hb2.mono (Nat.le_trans hbel.size hb1.size))).setCell (by simp) _
            · exact hB0b.far (by simp) _
            · exact hB1b.set 1 _
          case measure => omega
        · have hlt2 : N - Cal.dby y - Cal.cum y m < Cal.dim y m := by omega
          have hfin := Cal.ymd_eq (n := N) (y := y) (m := m) (d := N - Cal.dby y - Cal.cum y m + 1) ⟨hy0, hy4, hm0, by omega, by omega, by omega⟩ (by unfold Cal.num; omega)
          have HF := Lib.hid hfin
          clear hfin hcs hc
          go_wp2_with fail
          refine (rdays_calls _ _ _).mono ?_
          rintro e w1 ⟨rfl, hb1⟩
          have hB1a := hB1'.bel hb1
          have hB0a := hB0'.bel hb1
          have c1a := hB1a.cells
          have f1a := hB1a.free
          have c0a := hB0a.cells
          have f0a := hB0a.free
          go_wp2_with fail
          refine bodyPost_ret (v := .tuple #[civV y m (N - Cal.dby y - Cal.cum y m + 1) h (t % 60) ((N + 4) % 7), .int .i64 0]) (by simp [results, Try.results15, go_sem, c0a]) rfl ⟨?_, ?_⟩
          · rw [HF.out.1, HF.out.2.1, HF.out.2.2]
          · repeat refine Below.setCell ?_ (by simp) _
            exact hbel.trans (hb1.mono hbel.size)
end Go.Proofs.Ytjkaggmnieafjaa
