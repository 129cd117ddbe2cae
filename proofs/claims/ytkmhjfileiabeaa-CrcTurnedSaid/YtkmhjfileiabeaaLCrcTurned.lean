/-
  The statement CrcTurned: bytes that are changed within 32 bits in a row have another sum.
  No condition.
-/
import Derived.Test.YtkmhjfileiabeaaApp2
namespace Go.Proofs.Ytkmhjfileiabeaa.lawCrcTurned
open Go.ChangeShapes Go.WideShapes Go.ChangeAt Go.RowKit
set_option linter.unusedVariables false

theorem join8 (x m : Nat) (h : x < 256) : x ^^^ m * 2 ^ 8 = x + m * 256 := by
  have hd : (x ^^^ m * 2 ^ 8) / 2 ^ 8 = m := by
    rw [Nat.xor_div_two_pow, Nat.mul_div_cancel _ (by decide), Nat.div_eq_of_lt (by omega), Nat.zero_xor]
  have hm : (x ^^^ m * 2 ^ 8) % 2 ^ 8 = x := by
    rw [Nat.xor_mod_two_pow, Nat.mul_mod_left, Nat.mod_eq_of_lt (by omega), Nat.xor_zero]
  omega
theorem mul_xor (a b k : Nat) : (a ^^^ b) * 2 ^ k = a * 2 ^ k ^^^ b * 2 ^ k := by
  rw [← Nat.shiftLeft_eq, ← Nat.shiftLeft_eq, ← Nat.shiftLeft_eq, Nat.shiftLeft_xor_distrib]
/-- one byte is turned -/
def turn1 (l : List Nat) (j b : Nat) : List Nat := l.set j (l.getD j 0 ^^^ b)
theorem num_turn1 (b : Nat) : ∀ (l : List Nat) (j : Nat), j < l.length → Crc.num (turn1 l j b) = Crc.num l ^^^ b * 2 ^ (8 * j)
  | [], j, h => absurd h (Nat.not_lt_zero _)
  | x :: l, 0, _ => by
    simp only [turn1, List.set_cons_zero, List.getD_cons_zero, Crc.num, Nat.mul_zero, Nat.pow_zero, Nat.mul_one]
    rw [Nat.xor_assoc, Nat.xor_assoc, Nat.xor_comm b]
  | x :: l, j + 1, h => by
    have ih := num_turn1 b l j (by simpa using h)
    simp only [turn1, List.set_cons_succ, List.getD_cons_succ, Crc.num] at ih ⊢
    rw [ih, mul_xor, ← Nat.xor_assoc, show 8 * (j + 1) = 8 * j + 8 from by omega, Nat.pow_add, Nat.mul_assoc]
theorem len_turn1 (l : List Nat) (j b : Nat) : (turn1 l j b).length = l.length := by simp [turn1]
/-- the first i of the five bytes of t are turned, from the place p on -/
def turn (xs : List Nat) (p t : Nat) : Nat → List Nat
  | 0 => xs
  | i + 1 => turn1 (turn xs p t i) (p + i) (t / 2 ^ (8 * i) % 256)
theorem len_turn (xs : List Nat) (p t : Nat) : ∀ i, (turn xs p t i).length = xs.length
  | 0 => rfl
  | i + 1 => by rw [turn, len_turn1, len_turn xs p t i]
theorem num_turn (xs : List Nat) (p t : Nat) (ht : t < 2 ^ 40) (hp : p + 4 < xs.length) : Crc.num (turn xs p t 5) = Crc.num xs ^^^ t * 2 ^ (8 * p) := by
  have e : ∀ i, p + i < xs.length → Crc.num (turn xs p t (i + 1)) = Crc.num (turn xs p t i) ^^^ (t / 2 ^ (8 * i) % 256 * 2 ^ (8 * i)) * 2 ^ (8 * p) := fun i hi => by
    rw [turn, num_turn1 _ _ _ (by rw [len_turn]; exact hi), Nat.mul_assoc, ← Nat.pow_add, show 8 * (p + i) = 8 * i + 8 * p from by omega]
  rw [e 4 (by omega), e 3 (by omega), e 2 (by omega), e 1 (by omega), e 0 (by omega)]
  simp only [Nat.xor_assoc, ← mul_xor]
  rw [turn]
  congr 2
  have h1 := join8 (t % 256) (t / 256) (Nat.mod_lt _ (by decide))
  have h2 := join8 (t / 256 % 256) (t / 65536) (Nat.mod_lt _ (by decide))
  have h3 := join8 (t / 65536 % 256) (t / 16777216) (Nat.mod_lt _ (by decide))
  have h4 := join8 (t / 16777216 % 256) (t / 4294967296) (Nat.mod_lt _ (by decide))
  have k4 : t / 16777216 = t / 16777216 % 256 ^^^ t / 4294967296 * 2 ^ 8 := by omega
  have k3 : t / 65536 = t / 65536 % 256 ^^^ t / 16777216 * 2 ^ 8 := by omega
  have k2 : t / 256 = t / 256 % 256 ^^^ t / 65536 * 2 ^ 8 := by omega
  have k1 : t = t % 256 ^^^ t / 256 * 2 ^ 8 := by omega
  have k5 : t / 4294967296 % 256 = t / 4294967296 := by omega
  rw [k5]
  conv => rhs; rw [k1, k2, k3, k4]
  simp only [mul_xor, Nat.mul_assoc, ← Nat.pow_add, Nat.mul_zero, Nat.pow_zero, Nat.mul_one, Nat.div_one]
theorem turned (xs : List Nat) (p k b : Nat) (hb : b < 2 ^ 32) (h0 : b ≠ 0) (hk : k < 8) (hp : p + 4 < xs.length) : Crc.more 0 (turn xs p (b * 2 ^ k) 5) ≠ Crc.more 0 xs := fun h => by
  unfold Crc.more at h
  have h' : Crc.run (0 ^^^ Crc.top) (turn xs p (b * 2 ^ k) 5) = Crc.run (0 ^^^ Crc.top) xs := by
    have := congrArg (· ^^^ Crc.top) h
    simpa only [Nat.xor_assoc, Nat.xor_self, Nat.xor_zero] using this
  have ht : b * 2 ^ k < 2 ^ 40 := by
    have h1 : 2 ^ k ≤ 2 ^ 7 := Nat.pow_le_pow_right (by decide) (by omega)
    have h2 : b * 2 ^ k ≤ b * 2 ^ 7 := Nat.mul_le_mul_left _ h1
    omega
  rw [Crc.run_eq, Crc.run_eq, len_turn, num_turn xs p _ ht hp, ← Nat.xor_assoc, Crc.stps_xor] at h'
  have h2 : Crc.stps (8 * xs.length) (b * 2 ^ k * 2 ^ (8 * p)) = 0 := by
    have := congrArg (Crc.stps (8 * xs.length) (0 ^^^ Crc.top ^^^ Crc.num xs) ^^^ ·) h'
    simpa only [← Nat.xor_assoc, Nat.xor_self, Nat.zero_xor] using this
  rw [Nat.mul_assoc, ← Nat.pow_add, show 8 * xs.length = (k + 8 * p) + (8 * xs.length - (k + 8 * p)) from by omega, Crc.stps_shift'] at h2
  exact Crc.stps_ne _ hb h0 h2

theorem rd8_lt {w : World} {A : Option Addr} {xs : List Nat} (h : Rd8 w A xs) : ∀ x ∈ xs, x < 256 := fun x hx => by
  obtain ⟨i, hi, e⟩ := List.getElem_of_mem hx
  obtain ⟨_, _, _, _, h, _⟩ := h i hi
  simpa [List.getD, hi, e] using h

theorem u64_range (x : Int) : 0 ≤ IntKind.u64.wrap x ∧ IntKind.u64.wrap x < 18446744073709551616 := by
  have : IntKind.u64.wrap x = x % 18446744073709551616 := by simp [IntKind.wrap, IntKind.signed, IntKind.bits]
  rw [this]
  omega
theorem u64_small (x : Int) (h0 : 0 ≤ x) (h1 : x < 18446744073709551616) : IntKind.u64.wrap x = x := by
  have : IntKind.u64.wrap x = x % 18446744073709551616 := by simp [IntKind.wrap, IntKind.signed, IntKind.bits]
  rw [this]
  omega
theorem w64_small (x : Int) (h0 : 0 ≤ x) (h1 : x ≤ 9223372036854775807) : wrap64 x = x := by
  have : wrap64 x = (x + 9223372036854775808) % 18446744073709551616 - 9223372036854775808 := by unfold wrap64; omega
  omega
set_option maxRecDepth 20000 in
theorem walk (A : Option Addr) (cap : Nat) (xs : List Nat) (at_ shift : Int) (b : Nat) (w : World) (hR : Rd8 w A xs) (hlen : Hid (xs.length ≤ 2 ^ 47)) (hb : Hid (b < 2 ^ 32)) :
    Calls Try.prog 5 #[.slice A xs.length cap, .int .i64 at_, .int .u32 b, .int .i64 shift] w fun e w' => e = .returned (.bool true) ∧ Below w.heap.size w w' := by
  have HR := Lib.hid hR
  clear hR
  by_cases hout : xs.length < 5 ∨ 1048576 < xs.length ∨ b = 0
  · have ho : (xs.length : Int) < 5 ∨ (1048576 : Int) < (xs.length : Int) ∨ (b = 0) := by omega
    clear hout
    rcases ho with ho | ho | rfl
    · go_enter Try.func5, Try.ntmps5
      go_wp2_with fail
      refine (crc_awake _).mono ?_
      rintro e w1 ⟨rfl, hb1⟩
      go_wp2_with fail
      all_goals
        go_ret
        exact ⟨rfl, hb1⟩
    · go_enter Try.func5, Try.ntmps5
      go_wp2_with fail
      refine (crc_awake _).mono ?_
      rintro e w1 ⟨rfl, hb1⟩
      go_wp2_with fail
      all_goals
        go_ret
        exact ⟨rfl, hb1⟩
    · by_cases h1 : (xs.length : Int) < 5
      all_goals by_cases h2 : (1048576 : Int) < (xs.length : Int)
      all_goals
        go_enter Try.func5, Try.ntmps5
        go_wp2_with fail
        refine (crc_awake _).mono ?_
        rintro e w1 ⟨rfl, hb1⟩
        go_wp2_with fail
        all_goals
          go_ret
          exact ⟨rfl, hb1⟩
  · have hN := Lib.hid (show 5 ≤ xs.length ∧ xs.length ≤ 1048576 ∧ b ≠ 0 from by omega)
    have l1 : ¬ (xs.length : Int) < 5 := by omega
    have l2 : ¬ (1048576 : Int) < (xs.length : Int) := by omega
    have l3 : ((b : Int) == 0) = false := by simp; omega
    have l4 : ((xs.length : Int) - 4 == 0) = false := by simp; omega
    clear hout
    obtain ⟨t, k, ht, hk⟩ : ∃ t k : Nat, IntKind.u64.wrap (IntKind.u64.wrap (b : Int) * 2 ^ ((IntKind.u64.wrap shift).tmod 8).toNat) = (t : Int) ∧ (k < 8 ∧ t = b * 2 ^ k) := by
      have hs := Int.tmod_nonneg 8 (u64_range shift).1
      have hs2 := Int.tmod_lt_of_pos (IntKind.u64.wrap shift) (show (0 : Int) < 8 by omega)
      obtain ⟨k, hk⟩ : ∃ k : Nat, (IntKind.u64.wrap shift).tmod 8 = k := ⟨((IntKind.u64.wrap shift).tmod 8).toNat, by omega⟩
      have hk8 : k < 8 := by omega
      refine ⟨b * 2 ^ k, k, ?_, hk8, rfl⟩
      rw [hk, u64_small (b : Int) (by omega) (by have := hb.out; omega), Int.toNat_natCast]
      have h1 : 2 ^ k ≤ 2 ^ 7 := Nat.pow_le_pow_right (by decide) (by omega)
      have h2 : b * 2 ^ k ≤ b * 2 ^ 7 := Nat.mul_le_mul_left _ h1
      have h3 : (b : Int) * 2 ^ k = ((b * 2 ^ k : Nat) : Int) := by push_cast; rfl
      rw [h3, u64_small _ (by omega) (by have := hb.out; omega)]
    obtain ⟨p, hp, hpl⟩ : ∃ p : Nat, wrap64 ((IntKind.u64.wrap at_).tmod ((xs.length : Int) - 4)) = (p : Int) ∧ p + 4 < xs.length := by
      have hs := u64_range at_
      have hr := Int.tmod_lt_of_pos (IntKind.u64.wrap at_) (show (0 : Int) < (xs.length : Int) - 4 by omega)
      have hr0 := Int.tmod_nonneg ((xs.length : Int) - 4) hs.1
      have h5 := hN.out
      generalize (IntKind.u64.wrap at_).tmod ((xs.length : Int) - 4) = r at *
      refine ⟨r.toNat, ?_, by omega⟩
      rw [w64_small r hr0 (by omega)]
      omega
    have e0 : 0 ≤ (IntKind.u64.wrap shift).tmod 8 := Int.tmod_nonneg 8 (u64_range shift).1
    have e1 : (IntKind.u64.wrap shift).tmod 8 ≤ 64 := by have := Int.tmod_lt_of_pos (IntKind.u64.wrap shift) (show (0 : Int) < 8 by omega); omega
    have HT := Lib.hid ht
    have HK := Lib.hid hk
    have HP := Lib.hid hp
    have HPL := Lib.hid hpl
    clear ht hk hp hpl
    go_enter Try.func5, Try.ntmps5
    go_wp2_with fail
    refine (crc_awake _).mono ?_
    rintro e w1 ⟨rfl, hb1⟩
    go_wp2_with (first
      | (at_builtin
         refine wpList_app8 rfl (.tmp 41) (.tmp 42) rfl w1.heap.size _ [] rfl (Own8.lit w1 w1.heap.size (Nat.le_refl _) [] (by simp) (by simp [maxLen]) #[] rfl) A cap xs rfl (HR.out.bel (bel_new hb1 _)) (by have := hN.out; simp; omega) (by simp) ?_
         intro v1 w2 ho1 hg1 _
         have hb2 := Lib.hid (Own8.grown (w0 := w1) (Own8.lit w1 w1.heap.size (Nat.le_refl _) [] (by simp) (by simp [maxLen]) #[] rfl) ((Below.refl _ _).alloc (Nat.le_refl _) _) (by simp) hg1)))
    rw [HT.out, HP.out]
    clear e0 e1
    have ho1 : Own8 w2 w1.heap.size v1 xs := ho1
    obtain ⟨g2, cap2, rfl, hg2, hcap2⟩ := ho1.block (by have := hN.out; omega)
    have HO := Lib.hid ho1
    have h5 := hN.out.1
    clear ho1 hg1
    go_loopg [11] 5 (fun n v11 wr => ∃ (i : Nat), i + n = 5 ∧ v11 = .int .i64 i ∧ Hid (∃ L, L = turn xs p t i ∧ Own8 wr w1.heap.size (.slice (some ⟨g2, 0, none⟩) xs.length cap2) L ∧ Below w1.heap.size w1 wr))
    case atStart => exact ⟨0, by omega, rfl, Lib.hid ⟨xs, rfl, HO.out, hb2.out⟩⟩
    case round =>
      obtain ⟨i, hi, rfl, HI⟩ := hrel
      by_cases hlt : i < 5
      · have hg : 0 < gk := by omega
        have hil : (i : Int) < 5 := by omega
        have hle : (8 * (i : Int)) ≤ 64 := by omega
        have HII := Lib.hid hi
        obtain ⟨L, hL, hOL, hBL⟩ := HI.out
        have hLl : L.length = xs.length := by rw [hL, len_turn]
        obtain ⟨hc1, hc2, hc3⟩ := hOL.at_ (p + i) (by have := HPL.out; omega)
        have hpi : (p : Int) + (i : Int) < (xs.length : Int) := by have := HPL.out; omega
        generalize hy : L.getD (p + i) 0 = y at *
        have HY := Lib.hid hy
        have HL := Lib.hid hL
        have HLL := Lib.hid hLl
        have HOL := Lib.hid hOL
        have HBL := Lib.hid hBL
        clear hi hy hL hLl hOL hBL
        have q0 : 0 ≤ (p : Int) + (i : Int) := by omega
        have q1 : 0 ≤ 8 * (i : Int) := by omega
        have q2 : ((p : Int) + (i : Int)).toNat = p + i := by omega
        go_wp2_with fail
        go_region
        have hx2 : bits .xor .u8 (y : Int) ((t : Int) / 2 ^ (8 * i) % 256) = ((y ^^^ (t / 2 ^ (8 * i) % 256) : Nat) : Int) := by
          rw [← u8_xor_nat y (t / 2 ^ (8 * i) % 256) (by omega) (Nat.mod_lt _ (by decide))]
          push_cast
          rfl
        have hyx : y ^^^ (t / 2 ^ (8 * i) % 256) < 256 := Nat.xor_lt_two_pow (n := 8) (by omega) (Nat.mod_lt _ (by decide))
        rw [hx2]
        clear hx2
        have hfin := Lib.hid (show ∃ L', L' = turn xs p t (i + 1) ∧ Own8 ((wr.setCell ⟨g2, p + i, none⟩ (.int .u8 ((y ^^^ (t / 2 ^ (8 * i) % 256) : Nat) : Int))).drew) w1.heap.size (.slice (some ⟨g2, 0, none⟩) xs.length cap2) L' ∧ Below w1.heap.size w1 ((wr.setCell ⟨g2, p + i, none⟩ (.int .u8 ((y ^^^ (t / 2 ^ (8 * i) % 256) : Nat) : Int))).drew) from by
          refine ⟨_, rfl, ?_, ?_⟩
          · have := HOL.out.put (p + i) _ hyx
            rw [turn, turn1, ← HL.out, HY.out]
            exact this.kept ((Below.refl _ _).drew)
          · exact (HBL.out.setCell hg2 _).drew)
        generalize (wr.setCell ⟨g2, p + i, none⟩ (.int .u8 ((y ^^^ (t / 2 ^ (8 * i) % 256) : Nat) : Int))).drew = wr2 at *
        clear hyx hc1 hc2 hc3 q0 q1 q2
        go_wp2_with fail
        go_roundg (gk - 1)
        case rel =>
          have := HII.out
          exact ⟨i + 1, by omega, by go_num, hfin⟩
        case measure => omega
      · have hi5 : i = 5 := by omega
        subst hi5
        clear hi hlt
        obtain ⟨L, hL, hOL, hBL⟩ := HI.out
        have hLl : L.length = xs.length := by rw [hL, len_turn]
        obtain ⟨A2, c2, e2, _, hR2, hF2⟩ := hOL.form
        injection e2 with e2 e3 e4
        subst e2
        subst e4
        have HR2 := Lib.hid hR2
        have HLL := Lib.hid hLl
        have HNE := Lib.hid (show ((Crc.more 0 L : Nat) : Int) ≠ ((Crc.more 0 xs : Nat) : Int) from by
          rw [hL, HK.out.2]
          have := turned xs p k b hb.out hN.out.2.2 HK.out.1 HPL.out
          omega)
        have HB := Lib.hid (bel_tr hb1 hBL)
        clear hL hOL hBL hR2 hLl e3 hF2
        go_wp2_with fail
        refine (new_calls _).mono ?_
        rintro e w3 ⟨rfl, rfl⟩
        have hT := new_tab wr
        have hsz := HB.out.size
        have hlt := hT.lt
        have hb3 : Below w.heap.size w (wr.alloc (.cells tabNew 67)) := bel_new HB.out _
        have hR3 : Rd8 (wr.alloc (.cells tabNew 67)) (some ⟨g2, 0, none⟩) L := HR2.out.bel ((Below.refl _ _).alloc (Nat.le_refl _) _)
        have hF3 : 0 < L.length → Off (some ⟨g2, 0, none⟩) wr.heap.size := HR2.out.off (Nat.le_refl _)
        generalize wr.alloc (.cells tabNew 67) = w3 at *
        generalize wr.heap.size = g at *
        have HT3 := Lib.hid hT
        have HB3 := Lib.hid hb3
        have HR3 := Lib.hid hR3
        have HF3 := Lib.hid hF3
        clear hT hb3 hR3 hF3
        go_wp2_with fail
        rw [← HLL.out]
        refine (sum_calls g (some ⟨g2, 0, none⟩) cap2 L w3 HT3.out HR3.out HF3.out (by have := hN.out; rw [HLL.out]; omega)).mono ?_
        rintro e w4 ⟨rfl, hO4, hT4⟩
        have HO4 := Lib.hid (hO4.bel HB3.out hsz)
        have HT4 := Lib.hid hT4
        clear hO4 hT4
        go_wp2_with fail
        rw [HLL.out]
        refine (sum_calls g A cap xs w4 HT4.out.at_ (HR.out.bel HO4.out) (HR.out.off hsz) (by have := hN.out; omega)).mono ?_
        rintro e w5 ⟨rfl, hO5, hT5⟩
        have HO5 := Lib.hid (hO5.bel HO4.out hsz)
        clear hO5 hT5
        have hne := HNE.out
        generalize Crc.more 0 L = s1 at *
        generalize Crc.more 0 xs = s2 at *
        have hne2 : ((s1 : Int) != (s2 : Int)) = true := by simpa using hne
        have hne3 : ((s1 : Int) == (s2 : Int)) = false := by simpa using hne
        clear hne HNE
        go_wp2_with fail
        go_ret
        exact ⟨rfl, HO5.out⟩

set_option maxRecDepth 100000 in
theorem walks {H : Type} (enc : TypeId × Value → H) : Walks enc Try.prog 5 Try.f5 := by
  intro W base args ds ps hval hA hwt
  rw [Try.params5] at hA hval hwt
  obtain ⟨v0, vs0, d0, ds0, p0, q0, hargs, rfl, rfl, h0, r0⟩ := trodAll_cons hA
  obtain ⟨v1, vs1, d1, ds1, p1, q1, rfl, rfl, rfl, h1, r1⟩ := trodAll_cons r0
  obtain ⟨v2, vs2, d2, ds2, p2, q2, rfl, rfl, rfl, h2, r2⟩ := trodAll_cons r1
  obtain ⟨v3, vs3, d3, ds3, p3, q3, rfl, rfl, rfl, h3, r3⟩ := trodAll_cons r2
  obtain ⟨rfl, rfl, rfl⟩ := trodAll_nil r3
  obtain rfl : args = #[v0, v1, v2, v3] := by cases args; simp_all
  obtain ⟨A, xs, cap, rfl, c1, c2, hR⟩ := bytes_arg (hval 0 22 v0 rfl rfl) h0 (weightsEach_at (i := 0) hwt rfl rfl)
  obtain ⟨a1, rfl, rfl, rfl, w1⟩ := open_int Try.underlying3 (hval 1 3 v1 rfl rfl) h1
  obtain ⟨a2, rfl, rfl, rfl, w2⟩ := open_int Try.underlying23 (hval 2 23 v2 rfl rfl) h2
  obtain ⟨a3, rfl, rfl, rfl, w3⟩ := open_int Try.underlying3 (hval 3 3 v3 rfl rfl) h3
  have hr : 0 ≤ a2 ∧ a2 ≤ 4294967295 := by have := w2; simp [Lit.wf, IntKind.min, IntKind.max, IntKind.signed, IntKind.bits] at this; omega
  obtain ⟨s, rfl⟩ := Int.eq_ofNat_of_zero_le hr.1
  exact walk A cap xs a1 a3 s W hR (Lib.hid (by omega)) (Lib.hid (by omega))

set_option maxRecDepth 100000 in
theorem lifted (os : Os) (started : os.Started) (H : Type) (enc : TypeId × Value → H) :
    ReturnsInHanded {} Try.checked os 5 .any (Rows.crcTurnedSpec.pre6 enc Try.prog Try.f5 Rows.crcTurnedRow.domain false) (Rows.crcTurnedSpec.post enc Try.prog Try.f5 false true false false) :=
  frame_lifted (C := Try.checked) own started (by kernel_rfl) Try.func5
    (ChangeSpec.witness6 (enc := enc) (C := Try.checked) false ⟨#[], #[.slice none 0 0, .int .i64 0, .int .u32 0, .int .i64 0], []⟩ 8 (by kernel_rfl) (by kernel_rfl) (by kernel_rfl) (by kernel_rfl)) laidOut (by kernel_rfl) rfl (by rfl) Try.underlying4
    (fun ds h => match ds, h with | [d0, d1, d2, d3], _ => ⟨rfl, rfl, rfl⟩) (walks enc)

theorem over : Rows.crcTurnedRow.holds Try.pinned (OpenSpec.ofChange Rows.crcTurnedSpec) :=
  OpenClaim.holds_of_wide 5 Try.f5 rfl rfl rfl rfl rfl rfl rfl ⟨rfl, rfl, rfl, rfl, rfl⟩ rfl rfl rfl rfl rfl (by kernel_rfl) Try.func5 (by kernel_rfl)
    (of_decide_eq_true (by kernel_rfl)) (by unfold Func.isWrapper; first | (rw [if_pos (by decide +kernel)]; kernel_rfl) | (rw [if_neg (by decide +kernel)]; exact ⟨rfl, rfl⟩))
    (fun os started H enc _ => lifted os started H enc)

/-- the statement -/
theorem proved : Rows.CrcTurnedSaid := over
end Go.Proofs.Ytkmhjfileiabeaa.lawCrcTurned
