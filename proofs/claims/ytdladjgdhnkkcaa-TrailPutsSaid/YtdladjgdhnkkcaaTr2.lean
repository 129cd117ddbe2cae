/-
  Contracts of the package trail: term, Last, Term, Newer.
  Conditions: the entries can be read.
-/
import Derived.Test.YtdladjgdhnkkcaaTr1
namespace Go.Proofs.Ytdladjgdhnkkcaa
open Go.RowKit
set_option linter.unusedVariables false
set_option linter.unusedSimpArgs false

set_option maxHeartbeats 1000000 in
theorem term_calls (b bt n : Int) (A : Option Addr) (cap : Nat) (es : List En) (w : World) (hR : RdE w A es) (hb : 0 ≤ b ∧ b ≤ 1099511627776) (hn : b ≤ n ∧ n ≤ b + es.length) (hlen : es.length ≤ 4096) :
    Calls Try.prog 63 #[trV b bt A es.length cap, .int .i64 n] w fun e w' => e = .returned (.int .i64 (Tr.trm b bt es n)) ∧ Below w.heap.size w w' := by
  obtain ⟨r, hr⟩ : ∃ r, r = Tr.trm b bt es n := ⟨_, rfl⟩
  rw [← hr]
  unfold Tr.trm at hr
  by_cases hnb : n = b
  · rw [if_pos hnb] at hr
    subst hnb
    subst hr
    go_enter Try.func63, Try.ntmps63
    go_wp2_with fail
    go_ret
    exact ⟨rfl, (Below.refl _ _).alloc (Nat.le_refl _) _⟩
  · rw [if_neg hnb] at hr
    have hi : (n - b - 1).toNat < es.length := by omega
    obtain ⟨bl, off, rfl, hbl, hc1, _⟩ := hR _ hi
    rw [← hr] at hc1
    have k0 : (n == b) = false := by simpa using hnb
    have k1 : 0 ≤ n - b - 1 := by omega
    have k2 : n - b - 1 < (es.length : Int) := by omega
    have k3 : n - b ≤ 9223372036854775807 := by omega
    have k4 : (⟨bl, off, none⟩ : Addr).block ≠ w.heap.size := by show bl ≠ _; omega
    have hc : w.cell? ⟨bl, off + ((n - b).toNat - 1) * 2, none⟩ = some (.int .i64 r) := by
      rw [show (n - b).toNat - 1 = (n - b - 1).toNat from by omega]; exact hc1
    clear hc1 hn hi hnb hr hR hb
    go_enter Try.func63, Try.ntmps63
    go_wp2_with fail
    go_ret
    exact ⟨rfl, (Below.refl _ _).alloc (Nat.le_refl _) _⟩

/-- a log's own block: what a box of it holds, whatever comes behind -/
theorem box_bel {w W : World} {t : TypeId} {cs : Array Value} (hb : Below (w.alloc (.cells cs t)).heap.size (w.alloc (.cells cs t)) W) : Below w.heap.size w W ∧ Blk W w.heap.size t cs :=
  ⟨bel_al (Below.refl _ _) hb, (Blk.new w t cs).bel hb⟩

theorem since_below {w : World} {g : Nat} {t : TypeId} {cs : Array Value} (x : InS (Since1 w g t cs)) : Below w.heap.size w x.val := x.ok.1

set_option maxRecDepth 20000 in
set_option maxHeartbeats 1000000 in
theorem last2_calls (b bt : Int) (A : Option Addr) (cap : Nat) (es : List En) (w : World) (hR : RdE w A es) (hlen : es.length ≤ 9223372036854775807) :
    Calls Try.prog 22 #[trV b bt A es.length cap] w fun e w' => e = .returned (.tuple #[.int .i64 (Tr.lastN b bt es), .int .i64 (Tr.lastT b bt es)]) ∧ Below w.heap.size w w' := by
  have hck := Lib.hid (fun W hb => check_calls b bt A cap es W (hR.bel hb) hlen)
  have HR := Lib.hid hR
  obtain ⟨x, hx⟩ : ∃ x, x = Tr.lastN b bt es := ⟨_, rfl⟩
  obtain ⟨y, hy⟩ : ∃ y, y = Tr.lastT b bt es := ⟨_, rfl⟩
  rw [← hx, ← hy]
  unfold Tr.lastN at hx
  unfold Tr.lastT at hy
  by_cases hc : Tr.chk b bt es = true
  · rw [if_pos hc] at hx hy
    subst hx
    subst hy
    have hr := Tr.chk_rim hc
    rw [hc] at hck
    clear hc hR
    have hl := Lib.hid (fun W => last_calls b bt A es.length cap W (by omega) (by omega))
    have ht := Lib.hid (fun W hb => term_calls b bt (b + es.length) A cap es W (HR.out.bel hb) (by omega) (by omega) (by omega))
    clear hr
    generalize Tr.trm b bt es (b + es.length) = r at *
    have hS0 : ∀ W, Below (w.alloc (.cells #[.int .i64 b, .int .i64 bt, .slice A es.length cap] 24)).heap.size (w.alloc (.cells #[.int .i64 b, .int .i64 bt, .slice A es.length cap] 24)) W → Since1 w w.heap.size 24 #[.int .i64 b, .int .i64 bt, .slice A es.length cap] W.drew :=
      fun W h => ⟨bel_drew (box_bel h).1, (box_bel h).2.drewN 1⟩
    go_enter Try.func22, Try.ntmps22
    go_wp2_with fail
    refine (hck.out _ ((Below.refl _ _).alloc (Nat.le_refl _) _)).mono ?_
    rintro e w1 ⟨rfl, hb1⟩
    have hs1 := hS0 _ hb1
    have hc : ∀ (x : InS (Since1 w w.heap.size 24 #[.int .i64 b, .int .i64 bt, .slice A es.length cap])) i, x.val.cell? ⟨w.heap.size, i, none⟩ = (#[.int .i64 b, .int .i64 bt, .slice A es.length cap] : Array Value)[i]? := fun x => x.ok.2.cells
    have hne : Nonempty (InS (Since1 w w.heap.size 24 #[.int .i64 b, .int .i64 bt, .slice A es.length cap])) := ⟨⟨_, hs1⟩⟩
    clear hb1 hS0 hck
    go_wp2_with fail
    refine wp_region_in (Since1 w w.heap.size 24 #[.int .i64 b, .int .i64 bt, .slice A es.length cap]) (by kernel_rfl) (by kernel_rfl) hs1 ?_
    repeat (go_big_quiet_step ((first
      | (go_at_call 62; exact calls_in_bel Since1.keep (hl.out _))
      | (go_at_call 63; exact calls_in_bel Since1.keep (ht.out _ (since_below _))))))
    refine wpQuiet_nil ?_
    intro W hW
    have hs := in_ok hW
    clear hW hc hne
    go_wp2_with fail
    go_ret2
    exact ⟨rfl, hs.1⟩
  · rw [if_neg hc] at hx hy
    subst hx
    subst hy
    simp only [Bool.not_eq_true] at hc
    rw [hc] at hck
    go_enter Try.func22, Try.ntmps22
    go_wp2_with fail
    refine (hck.out _ ((Below.refl _ _).alloc (Nat.le_refl _) _)).mono ?_
    rintro e w1 ⟨rfl, hb1⟩
    go_wp2_with fail
    go_ret2
    exact ⟨rfl, (box_bel hb1).1⟩

set_option maxRecDepth 20000 in
set_option maxHeartbeats 1000000 in
theorem term2_calls (b bt n : Int) (A : Option Addr) (cap : Nat) (es : List En) (w : World) (hR : RdE w A es) (hlen : es.length ≤ 9223372036854775807) :
    Calls Try.prog 20 #[trV b bt A es.length cap, .int .i64 n] w fun e w' => e = .returned (.tuple #[.int .i64 (if Tr.has b bt es n then Tr.trm b bt es n else 0), .bool (Tr.has b bt es n)]) ∧ Below w.heap.size w w' := by
  have hck := Lib.hid (fun W hb => check_calls b bt A cap es W (hR.bel hb) hlen)
  have HR := Lib.hid hR
  obtain ⟨x, hx⟩ : ∃ x, x = (if Tr.has b bt es n then Tr.trm b bt es n else 0) := ⟨_, rfl⟩
  obtain ⟨y, hy⟩ : ∃ y, y = Tr.has b bt es n := ⟨_, rfl⟩
  rw [← hx, ← hy]
  rw [← hy] at hx
  unfold Tr.has at hy
  by_cases hc : Tr.chk b bt es = true
  · have hr := Tr.chk_rim hc
    rw [hc] at hck hy
    rw [Bool.true_and] at hy
    clear hc hR
    have hl := Lib.hid (fun W => last_calls b bt A es.length cap W (by omega) (by omega))
    by_cases hn : b ≤ n ∧ n ≤ b + es.length
    · rw [dec_t hn] at hy
      subst hy
      rw [if_pos rfl] at hx
      have ht := Lib.hid (fun W hb => term_calls b bt n A cap es W (HR.out.bel hb) (by omega) hn (by omega))
      rw [← hx] at ht
      have n1 : ¬ n < b := by omega
      have n2 : ¬ b + (es.length : Int) < n := by omega
      clear hr hn hx
      go_enter Try.func20, Try.ntmps20
      go_wp2_with fail
      refine (hck.out _ ((Below.refl _ _).alloc (Nat.le_refl _) _)).mono ?_
      rintro e w1 ⟨rfl, hb1⟩
      obtain ⟨hw1, hB1⟩ := box_bel hb1
      have hc1 := hB1.cells
      clear hb1
      go_wp2_with fail
      refine (hl.out _).mono ?_
      rintro e w2 ⟨rfl, hb2⟩
      have hw2 := bel_tr hw1 hb2
      have hc2 := (hB1.bel hb2).cells
      clear hc1 hB1 hw1 hb2
      go_wp2_with fail
      refine (ht.out _ hw2).mono ?_
      rintro e w3 ⟨rfl, hb3⟩
      have hw3 := bel_tr hw2 hb3
      clear hc2 hw2 hb3
      go_wp2_with fail
      go_ret2
      exact ⟨rfl, hw3⟩
    · rw [dec_f hn] at hy
      subst hy
      rw [if_neg (by simp)] at hx
      subst hx
      clear hr
      by_cases n1 : n < b
      · clear hn
        go_enter Try.func20, Try.ntmps20
        go_wp2_with fail
        refine (hck.out _ ((Below.refl _ _).alloc (Nat.le_refl _) _)).mono ?_
        rintro e w1 ⟨rfl, hb1⟩
        obtain ⟨hw1, hB1⟩ := box_bel hb1
        have hc1 := hB1.cells
        clear hb1
        go_wp2_with fail
        go_ret2
        exact ⟨rfl, hw1⟩
      · have n2 : b + (es.length : Int) < n := by omega
        clear hn
        go_enter Try.func20, Try.ntmps20
        go_wp2_with fail
        refine (hck.out _ ((Below.refl _ _).alloc (Nat.le_refl _) _)).mono ?_
        rintro e w1 ⟨rfl, hb1⟩
        obtain ⟨hw1, hB1⟩ := box_bel hb1
        have hc1 := hB1.cells
        clear hb1
        go_wp2_with fail
        refine (hl.out _).mono ?_
        rintro e w2 ⟨rfl, hb2⟩
        have hw2 := bel_tr hw1 hb2
        clear hc1 hB1 hw1 hb2
        go_wp2_with fail
        go_ret2
        exact ⟨rfl, hw2⟩
  · simp only [Bool.not_eq_true] at hc
    rw [hc] at hck hy
    rw [Bool.false_and] at hy
    subst hy
    rw [if_neg (by simp)] at hx
    subst hx
    go_enter Try.func20, Try.ntmps20
    go_wp2_with fail
    refine (hck.out _ ((Below.refl _ _).alloc (Nat.le_refl _) _)).mono ?_
    rintro e w1 ⟨rfl, hb1⟩
    go_wp2_with fail
    go_ret2
    exact ⟨rfl, (box_bel hb1).1⟩

set_option maxRecDepth 20000 in
set_option maxHeartbeats 1000000 in
theorem newer_calls (b bt n t : Int) (A : Option Addr) (cap : Nat) (es : List En) (w : World) (hR : RdE w A es) (hlen : es.length ≤ 9223372036854775807) :
    Calls Try.prog 23 #[trV b bt A es.length cap, .int .i64 n, .int .i64 t] w fun e w' => e = .returned (.bool (Tr.newer b bt es n t)) ∧ Below w.heap.size w w' := by
  have hck := Lib.hid (fun W hb => check_calls b bt A cap es W (hR.bel hb) hlen)
  have hl := Lib.hid (fun W hb => last2_calls b bt A cap es W (hR.bel hb) hlen)
  obtain ⟨r, hr⟩ : ∃ r, r = Tr.newer b bt es n t := ⟨_, rfl⟩
  rw [← hr]
  unfold Tr.newer at hr
  by_cases hc : Tr.chk b bt es = true
  · rw [hc] at hck hr
    rw [Bool.true_and] at hr
    clear hc hR
    generalize Tr.lastN b bt es = x at *
    generalize Tr.lastT b bt es = y at *
    have HF := Lib.hid hr
    clear hr
    go_enter Try.func23, Try.ntmps23
    go_wp2_with fail
    refine (hck.out _ ((Below.refl _ _).alloc (Nat.le_refl _) _)).mono ?_
    rintro e w1 ⟨rfl, hb1⟩
    obtain ⟨hw1, hB1⟩ := box_bel hb1
    have hc1 := hB1.cells
    clear hb1
    go_wp2_with fail
    refine (hl.out _ hw1).mono ?_
    rintro e w2 ⟨rfl, hb2⟩
    have hw2 := bel_tr hw1 hb2
    clear hc1 hB1 hw1 hb2
    have hty : (t == y) = decide (t = y) := by rw [Bool.eq_iff_iff]; simp
    by_cases h1 : y < t
    · have HH := Lib.hid h1
      go_wp2_with fail
      go_ret
      exact ⟨ret_bool (by rw [HF.out, dec_t HH.out]; rfl), hw2⟩
    · have HH := Lib.hid h1
      by_cases h2 : t = y
      · subst h2
        go_wp2_with fail
        all_goals
          go_ret
          exact ⟨ret_bool (by rw [HF.out]; simp), hw2⟩
      · rw [dec_f h2] at hty
        have H2 := Lib.hid h2
        clear h2
        go_wp2_with fail
        go_ret
        exact ⟨ret_bool (by rw [HF.out, dec_f H2.out]; simp), hw2⟩
  · simp only [Bool.not_eq_true] at hc
    rw [hc] at hck hr
    rw [Bool.false_and] at hr
    subst hr
    clear hl hR
    go_enter Try.func23, Try.ntmps23
    go_wp2_with fail
    refine (hck.out _ ((Below.refl _ _).alloc (Nat.le_refl _) _)).mono ?_
    rintro e w1 ⟨rfl, hb1⟩
    go_wp2_with fail
    go_ret
    exact ⟨rfl, (box_bel hb1).1⟩
end Go.Proofs.Ytdladjgdhnkkcaa
