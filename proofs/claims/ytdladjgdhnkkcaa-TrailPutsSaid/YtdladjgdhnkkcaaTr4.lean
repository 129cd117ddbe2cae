/-
  Contracts of the reference of layer 13: Last, Term, Newer.
  Conditions: the entries can be read.
-/
import Derived.Test.YtdladjgdhnkkcaaTr3
namespace Go.Proofs.Ytdladjgdhnkkcaa
open Go.RowKit
set_option linter.unusedVariables false
set_option linter.unusedSimpArgs false

set_option maxRecDepth 20000 in
set_option maxHeartbeats 1000000 in
theorem rlast2_calls (b bt : Int) (A : Option Addr) (cap : Nat) (es : List En) (w : World) (hR : RdE w A es) (hlen : es.length ≤ 9223372036854775807) :
    Calls Try.prog 29 #[trV b bt A es.length cap] w fun e w' => e = .returned (.tuple #[.int .i64 (Tr.lastN b bt es), .int .i64 (Tr.lastT b bt es)]) ∧ Below w.heap.size w w' := by
  have hck := Lib.hid (fun W hb => rcheck_calls b bt A cap es W (hR.bel hb) hlen)
  have HR := Lib.hid hR
  obtain ⟨x, hx⟩ : ∃ x, x = Tr.lastN b bt es := ⟨_, rfl⟩
  obtain ⟨y, hy⟩ : ∃ y, y = Tr.lastT b bt es := ⟨_, rfl⟩
  rw [← hx, ← hy]
  unfold Tr.lastN at hx
  unfold Tr.lastT at hy
  by_cases hc : Tr.chk b bt es = true
  · rw [if_pos hc] at hx hy
    subst hx
    have hr := Tr.chk_rim hc
    rw [hc] at hck
    clear hc hR
    by_cases h0 : es.length = 0
    · obtain rfl := List.eq_nil_of_length_eq_zero h0
      have hy2 : y = bt := by rw [hy]; unfold Tr.trm; rw [if_pos (by simp)]
      have hx2 : b + (([] : List En).length : Int) = b := by simp
      rw [hx2]
      subst hy2
      simp only [List.length_nil] at hck ⊢
      clear hr hy hx2 h0
      go_enter Try.func29, Try.ntmps29
      go_wp2_with fail
      refine (hck.out _ ((Below.refl _ _).alloc (Nat.le_refl _) _)).mono ?_
      rintro e w1 ⟨rfl, hb1⟩
      obtain ⟨hw1, hB1⟩ := box_bel hb1
      have hc1 := hB1.cells
      clear hb1
      go_wp2_with fail
      go_region
      go_wp2_with fail
      go_ret2
      exact ⟨rfl, bel_drew hw1⟩
    · have hi : es.length - 1 < es.length := by omega
      obtain ⟨bl, off, rfl, hbl, hc1, _⟩ := HR.out _ hi
      unfold Tr.trm at hy
      rw [if_neg (by omega), show (b + (es.length : Int) - b - 1).toNat = es.length - 1 from by omega] at hy
      rw [← hy] at hc1
      have he : ((es.length : Int) == 0) = false := by rw [beq_eq_false_iff_ne]; omega
      have k1 : 0 ≤ (es.length : Int) - 1 := by omega
      have k2 : (es.length : Int) - 1 < (es.length : Int) := by omega
      have k3 : b + (es.length : Int) ≤ 9223372036854775807 := by omega
      have k4 : -9223372036854775808 ≤ b + (es.length : Int) := by omega
      clear hr hi hy h0
      go_enter Try.func29, Try.ntmps29
      go_wp2_with fail
      refine (hck.out _ ((Below.refl _ _).alloc (Nat.le_refl _) _)).mono ?_
      rintro e w1 ⟨rfl, hb1⟩
      obtain ⟨hw1, hB1⟩ := box_bel hb1
      have hcb := hB1.cells
      have hc := (hw1.cell (p := ⟨bl, off + (es.length - 1) * 2, none⟩) hbl).trans hc1
      clear hb1 hc1
      go_wp2_with fail
      go_region
      go_wp2_with fail
      go_ret2
      exact ⟨rfl, bel_drew hw1⟩
  · rw [if_neg hc] at hx hy
    subst hx
    subst hy
    simp only [Bool.not_eq_true] at hc
    rw [hc] at hck
    go_enter Try.func29, Try.ntmps29
    go_wp2_with fail
    refine (hck.out _ ((Below.refl _ _).alloc (Nat.le_refl _) _)).mono ?_
    rintro e w1 ⟨rfl, hb1⟩
    go_wp2_with fail
    go_ret2
    exact ⟨rfl, (box_bel hb1).1⟩

set_option maxRecDepth 20000 in
set_option maxHeartbeats 1000000 in
theorem rterm2_calls (b bt n : Int) (A : Option Addr) (cap : Nat) (es : List En) (w : World) (hR : RdE w A es) (hlen : es.length ≤ 9223372036854775807) :
    Calls Try.prog 30 #[trV b bt A es.length cap, .int .i64 n] w fun e w' => e = .returned (.tuple #[.int .i64 (if Tr.has b bt es n then Tr.trm b bt es n else 0), .bool (Tr.has b bt es n)]) ∧ Below w.heap.size w w' := by
  have hck := Lib.hid (fun W hb => rcheck_calls b bt A cap es W (hR.bel hb) hlen)
  have HR := Lib.hid hR
  obtain ⟨x, hx⟩ : ∃ x, x = (if Tr.has b bt es n then Tr.trm b bt es n else 0) := ⟨_, rfl⟩
  obtain ⟨y, hy⟩ : ∃ y, y = Tr.has b bt es n := ⟨_, rfl⟩
  rw [← hx, ← hy]
  rw [← hy] at hx
  unfold Tr.has at hy
  by_cases hc : Tr.chk b bt es = true
  · have hr := Tr.chk_rim hc
    rw [hc] at hck hy
    rw [Bool.true_and] at hy
    clear hc hR
    have k3 : b + (es.length : Int) ≤ 9223372036854775807 := by omega
    have k4 : -9223372036854775808 ≤ b + (es.length : Int) := by omega
    by_cases hn : b ≤ n ∧ n ≤ b + es.length
    · rw [dec_t hn] at hy
      subst hy
      rw [if_pos rfl] at hx
      have n1 : ¬ n < b := by omega
      have n2 : ¬ b + (es.length : Int) < n := by omega
      unfold Tr.trm at hx
      by_cases hnb : n = b
      · subst hnb
        rw [if_pos rfl] at hx
        subst hx
        clear hr hn n1
        go_enter Try.func30, Try.ntmps30
        go_wp2_with fail
        refine (hck.out _ ((Below.refl _ _).alloc (Nat.le_refl _) _)).mono ?_
        rintro e w1 ⟨rfl, hb1⟩
        obtain ⟨hw1, hB1⟩ := box_bel hb1
        have hc1 := hB1.cells
        clear hb1
        go_wp2_with fail
        go_ret2
        exact ⟨rfl, hw1⟩
      · rw [if_neg hnb] at hx
        have hi : (n - b - 1).toNat < es.length := by omega
        obtain ⟨bl, off, rfl, hbl, hc1, _⟩ := HR.out _ hi
        rw [← hx] at hc1
        have k0 : (n == b) = false := by simpa using hnb
        have k1 : 0 ≤ n - b - 1 := by omega
        have k2 : n - b - 1 < (es.length : Int) := by omega
        have k5 : n - b ≤ 9223372036854775807 := by omega
        have hc2 : w.cell? ⟨bl, off + ((n - b).toNat - 1) * 2, none⟩ = some (.int .i64 x) := by
          rw [show (n - b).toNat - 1 = (n - b - 1).toNat from by omega]; exact hc1
        clear hr hn hx hnb hc1
        go_enter Try.func30, Try.ntmps30
        go_wp2_with fail
        refine (hck.out _ ((Below.refl _ _).alloc (Nat.le_refl _) _)).mono ?_
        rintro e w1 ⟨rfl, hb1⟩
        obtain ⟨hw1, hB1⟩ := box_bel hb1
        have hc1 := hB1.cells
        have hc3 := (hw1.cell (p := ⟨bl, off + ((n - b).toNat - 1) * 2, none⟩) hbl).trans hc2
        clear hb1 hc2
        go_wp2_with fail
        go_ret2
        exact ⟨rfl, hw1⟩
    · rw [dec_f hn] at hy
      subst hy
      rw [if_neg (by simp)] at hx
      subst hx
      clear hr
      by_cases n1 : n < b
      · clear hn
        go_enter Try.func30, Try.ntmps30
        go_wp2_with fail
        refine (hck.out _ ((Below.refl _ _).alloc (Nat.le_refl _) _)).mono ?_
        rintro e w1 ⟨rfl, hb1⟩
        obtain ⟨hw1, hB1⟩ := box_bel hb1
        have hc1 := hB1.cells
        clear hb1
        go_wp2_with fail
        go_ret2
        exact ⟨rfl, hw1⟩
      · have n2 : b + (es.length : Int) < n := by omega
        clear hn
        go_enter Try.func30, Try.ntmps30
        go_wp2_with fail
        refine (hck.out _ ((Below.refl _ _).alloc (Nat.le_refl _) _)).mono ?_
        rintro e w1 ⟨rfl, hb1⟩
        obtain ⟨hw1, hB1⟩ := box_bel hb1
        have hc1 := hB1.cells
        clear hb1
        go_wp2_with fail
        go_ret2
        exact ⟨rfl, hw1⟩
  · simp only [Bool.not_eq_true] at hc
    rw [hc] at hck hy
    rw [Bool.false_and] at hy
    subst hy
    rw [if_neg (by simp)] at hx
    subst hx
    go_enter Try.func30, Try.ntmps30
    go_wp2_with fail
    refine (hck.out _ ((Below.refl _ _).alloc (Nat.le_refl _) _)).mono ?_
    rintro e w1 ⟨rfl, hb1⟩
    go_wp2_with fail
    go_ret2
    exact ⟨rfl, (box_bel hb1).1⟩

set_option maxRecDepth 20000 in
set_option maxHeartbeats 1000000 in
theorem rnewer_calls (b bt n t : Int) (A : Option Addr) (cap : Nat) (es : List En) (w : World) (hR : RdE w A es) (hlen : es.length ≤ 9223372036854775807) :
    Calls Try.prog 32 #[trV b bt A es.length cap, .int .i64 n, .int .i64 t] w fun e w' => e = .returned (.bool (Tr.newer b bt es n t)) ∧ Below w.heap.size w w' := by
  have hck := Lib.hid (fun W hb => rcheck_calls b bt A cap es W (hR.bel hb) hlen)
  have hl := Lib.hid (fun W hb => rlast2_calls b bt A cap es W (hR.bel hb) hlen)
  obtain ⟨r, hr⟩ : ∃ r, r = Tr.newer b bt es n t := ⟨_, rfl⟩
  rw [← hr]
  unfold Tr.newer at hr
  by_cases hc : Tr.chk b bt es = true
  · rw [hc] at hck hr
    rw [Bool.true_and] at hr
    clear hc hR
    generalize Tr.lastN b bt es = x at *
    generalize Tr.lastT b bt es = y at *
    have HF := Lib.hid hr
    clear hr
    go_enter Try.func32, Try.ntmps32
    go_wp2_with fail
    refine (hck.out _ ((Below.refl _ _).alloc (Nat.le_refl _) _)).mono ?_
    rintro e w1 ⟨rfl, hb1⟩
    obtain ⟨hw1, hB1⟩ := box_bel hb1
    have hc1 := hB1.cells
    clear hb1
    go_wp2_with fail
    refine (hl.out _ hw1).mono ?_
    rintro e w2 ⟨rfl, hb2⟩
    have hw2 := bel_tr hw1 hb2
    clear hc1 hB1 hw1 hb2
    have hty : (t != y) = decide (¬ t = y) := by rw [Bool.eq_iff_iff]; simp
    by_cases h2 : t = y
    · subst h2
      go_wp2_with fail
      all_goals
        go_ret
        exact ⟨ret_bool (by rw [HF.out]; simp), hw2⟩
    · rw [dec_t h2] at hty
      have H2 := Lib.hid h2
      clear h2
      go_wp2_with fail
      all_goals
        go_ret
        exact ⟨ret_bool (by rw [HF.out, dec_f H2.out]; simp), hw2⟩
  · simp only [Bool.not_eq_true] at hc
    rw [hc] at hck hr
    rw [Bool.false_and] at hr
    subst hr
    clear hl hR
    go_enter Try.func32, Try.ntmps32
    go_wp2_with fail
    refine (hck.out _ ((Below.refl _ _).alloc (Nat.le_refl _) _)).mono ?_
    rintro e w1 ⟨rfl, hb1⟩
    go_wp2_with fail
    go_ret
    exact ⟨rfl, (box_bel hb1).1⟩
end Go.Proofs.Ytdladjgdhnkkcaa
