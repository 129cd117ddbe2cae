
/-
  2 texts in one.
  Conditions: stated lemma by lemma.
-/
import Derived.Test.YtdladjgdhnkkcaaGreatZTrMToTr2
/-
  Contracts of the reference of layer 13: Follow, Check, Last, Term, Newer.
  Conditions: the entries can be read.
-/
namespace Go.Proofs.YtdladjgdhnkkcaaGreat
open Go.RowKit
set_option linter.unusedVariables false
set_option linter.unusedSimpArgs false

set_option maxHeartbeats 1000000 in
theorem rfollow_calls (t : Int) (A : Option Addr) (cap : Nat) (es : List En) (w : World) (hR : RdE w A es) (hlen : es.length ≤ 9223372036854775807) :
    Calls Tryz.prog 68 #[.int .i64 t, .slice A es.length cap] w fun e w' => e = .returned (.bool (Tr.fol t es)) ∧ w' = w := by
  obtain ⟨r, hr⟩ : ∃ r, r = Tr.fol t es := ⟨_, rfl⟩
  rw [← hr]
  have HR := Lib.hid hR
  have HF := Lib.hid hr
  clear hr hR
  go_enter Tryz.func68, Tryz.ntmps68
  go_wp2_with fail
  go_loopg [0, 5] es.length (fun g v0 v5 w' => w' = w ∧ ∃ (k : Nat) (t' : Int), k + g = es.length ∧ v5 = .int .i64 k ∧ v0 = .int .i64 t' ∧ Hid (r = Tr.fol t' (es.drop k)))
  case atStart => exact ⟨rfl, 0, t, by omega, rfl, rfl, Lib.hid HF.out⟩
  case round =>
    obtain ⟨rfl, k, t', hk, rfl, rfl, HI⟩ := hrel
    by_cases hlt : k < es.length
    · have hg : 0 < gk := by omega
      have hl : (k : Int) < (es.length : Int) := by omega
      have HK := Lib.hid hk
      clear hk
      obtain ⟨b, off, rfl, hbl, hw1, hw2⟩ := HR.out k hlt
      have hst := fol_step (t := t') hlt
      generalize es.getD k default = c at *
      obtain ⟨ct, cs⟩ := c
      have HS := Lib.hid hst
      clear hst
      simp only at hw1 hw2
      by_cases hok : Tr.ok t' (ct, cs) = true
      · have hok' : t' ≤ ct ∧ 1 ≤ ct ∧ ct ≤ 1099511627776 ∧ cs.size ≤ 4096 := by simpa [Tr.ok] using hok
        have HO := Lib.hid hok
        obtain ⟨o1, o2, o3, o4⟩ := hok'
        have o5 : ¬ (4096 : Int) < (cs.size : Int) := by omega
        have o6 : ¬ ct < t' := by omega
        have o7 : ¬ ct < 1 := by omega
        have o8 : ¬ 1099511627776 < ct := by omega
        clear hok o1 o2 o3 o4
        go_wp2_with fail
        go_roundg (gk - 1)
        case rel => exact ⟨rfl, k + 1, ct, by have := HK.out; omega, by go_num, rfl, Lib.hid (by rw [HI.out, HS.out, HO.out, Bool.true_and])⟩
        case measure => omega
      · have hrf : r = false := by
          rw [HI.out, HS.out]
          simp [hok]
        have hok' : ¬ (t' ≤ ct ∧ 1 ≤ ct ∧ ct ≤ 1099511627776 ∧ (cs.size : Int) ≤ 4096) := by
          intro h; apply hok; simp [Tr.ok]; omega
        have HN := Lib.hid hok'
        have HF2 := Lib.hid hrf
        clear hok hok' hrf
        go_wp2_with fail
        all_goals first
          | (exfalso; have := HN.out; omega)
          | (go_ret
             exact ⟨ret_bool HF2.out.symm, rfl⟩)
    · have hke : k = es.length := by omega
      subst hke
      have hrt : r = true := by rw [HI.out, List.drop_length]; rfl
      have HT := Lib.hid hrt
      clear hk hlt hrt
      go_wp2_with fail
      go_ret
      exact ⟨ret_bool HT.out.symm, rfl⟩

set_option maxRecDepth 20000 in
set_option maxHeartbeats 1000000 in
theorem rcheck_calls (b bt : Int) (A : Option Addr) (cap : Nat) (es : List En) (w : World) (hR : RdE w A es) (hlen : es.length ≤ 9223372036854775807) :
    Calls Tryz.prog 50 #[trV b bt A es.length cap] w fun e w' => e = .returned (.bool (Tr.chk b bt es)) ∧ Below w.heap.size w w' := by
  obtain ⟨r, hr⟩ : ∃ r, r = Tr.chk b bt es := ⟨_, rfl⟩
  rw [← hr]
  have HR := Lib.hid hR
  have HF := Lib.hid hr
  clear hr hR
  have hbel : Below w.heap.size w (w.alloc (.cells #[.int .i64 b, .int .i64 bt, .slice A es.length cap] 25)) := (Below.refl _ _).alloc (Nat.le_refl _) _
  rcases Decidable.em (b = 0) with rfl | h0
  all_goals rcases Decidable.em (bt = 0) with rfl | h1
  · by_cases hp : 0 ≤ (0 : Int) ∧ (0 : Int) ≤ 1099511627776 ∧ 0 ≤ (0 : Int) ∧ (0 : Int) ≤ 1099511627776 ∧ (0 < (0 : Int) ∨ (0 : Int) = 0) ∧ (es.length : Int) ≤ 4096 ∧ (0 : Int) + es.length ≤ 1099511627776
    · have fol : r = Tr.fol (0 : Int) es := by
        rw [HF.out]
        unfold Tr.chk Tr.rim
        rw [dec_t (by omega), Bool.true_and]
      have HF2 := Lib.hid fol
      obtain ⟨p1, p2, p3, p4, p5, p6, p7⟩ := hp
      have q1 : ¬ (0 : Int) < 0 := by omega
      have q2 : ¬ 1099511627776 < (0 : Int) := by omega
      have q3 : ¬ (0 : Int) < 0 := by omega
      have q4 : ¬ 1099511627776 < (0 : Int) := by omega
      have q5 : (0 : Int) + es.length ≤ 9223372036854775807 := by omega
      clear fol HF
      first
        | (exfalso; omega)
        | (clear p5
           have hfc := Lib.hid (rfollow_calls (0 : Int) A cap es _ (HR.out.bel hbel) hlen)
           go_enter Tryz.func50, Tryz.ntmps50
           go_wp2_with fail
           refine hfc.out.mono ?_
           rintro e w1 ⟨rfl, rfl⟩
           go_wp2_with fail
           all_goals
             go_ret
             refine ⟨ret_bool ?_, hbel⟩
             rw [HF2.out]
             first | done | assumption | (symm; assumption))
    · have hrf : r = false := by
        rw [HF.out]
        unfold Tr.chk Tr.rim
        rw [dec_f (by omega)]; rfl
      have HF2 := Lib.hid hrf
      have HP := Lib.hid hp
      have hx : (4096 : Int) < (es.length : Int) := by omega
      clear HF hrf hp
      go_enter Tryz.func50, Tryz.ntmps50
      go_wp2_with fail
      all_goals first
        | (exfalso; have := HP.out; omega)
        | (go_ret
           exact ⟨ret_bool HF2.out.symm, hbel⟩)
  · have hbt : (bt != 0) = true := by simpa using h1
    by_cases hp : 0 ≤ (0 : Int) ∧ (0 : Int) ≤ 1099511627776 ∧ 0 ≤ bt ∧ bt ≤ 1099511627776 ∧ (0 < (0 : Int) ∨ bt = 0) ∧ (es.length : Int) ≤ 4096 ∧ (0 : Int) + es.length ≤ 1099511627776
    · have fol : r = Tr.fol bt es := by
        rw [HF.out]
        unfold Tr.chk Tr.rim
        rw [dec_t (by omega), Bool.true_and]
      have HF2 := Lib.hid fol
      obtain ⟨p1, p2, p3, p4, p5, p6, p7⟩ := hp
      have q1 : ¬ (0 : Int) < 0 := by omega
      have q2 : ¬ 1099511627776 < (0 : Int) := by omega
      have q3 : ¬ bt < 0 := by omega
      have q4 : ¬ 1099511627776 < bt := by omega
      have q5 : (0 : Int) + es.length ≤ 9223372036854775807 := by omega
      clear fol HF
      first
        | (exfalso; omega)
        | (clear p5
           have hfc := Lib.hid (rfollow_calls bt A cap es _ (HR.out.bel hbel) hlen)
           go_enter Tryz.func50, Tryz.ntmps50
           go_wp2_with fail
           refine hfc.out.mono ?_
           rintro e w1 ⟨rfl, rfl⟩
           go_wp2_with fail
           all_goals
             go_ret
             refine ⟨ret_bool ?_, hbel⟩
             rw [HF2.out]
             first | done | assumption | (symm; assumption))
    · have hrf : r = false := by
        rw [HF.out]
        unfold Tr.chk Tr.rim
        rw [dec_f (by omega)]; rfl
      have HF2 := Lib.hid hrf
      have HP := Lib.hid hp
      clear HF hrf hp
      go_enter Tryz.func50, Tryz.ntmps50
      go_wp2_with fail
      all_goals first
        | (exfalso; have := HP.out; omega)
        | (go_ret
           exact ⟨ret_bool HF2.out.symm, hbel⟩)
  · have hb0 : (b == 0) = false := by simpa using h0
    by_cases hp : 0 ≤ b ∧ b ≤ 1099511627776 ∧ 0 ≤ (0 : Int) ∧ (0 : Int) ≤ 1099511627776 ∧ (0 < b ∨ (0 : Int) = 0) ∧ (es.length : Int) ≤ 4096 ∧ b + es.length ≤ 1099511627776
    · have fol : r = Tr.fol (0 : Int) es := by
        rw [HF.out]
        unfold Tr.chk Tr.rim
        rw [dec_t (by omega), Bool.true_and]
      have HF2 := Lib.hid fol
      obtain ⟨p1, p2, p3, p4, p5, p6, p7⟩ := hp
      have q1 : ¬ b < 0 := by omega
      have q2 : ¬ 1099511627776 < b := by omega
      have q3 : ¬ (0 : Int) < 0 := by omega
      have q4 : ¬ 1099511627776 < (0 : Int) := by omega
      have q5 : b + es.length ≤ 9223372036854775807 := by omega
      clear fol HF
      first
        | (exfalso; omega)
        | (clear p5
           have hfc := Lib.hid (rfollow_calls (0 : Int) A cap es _ (HR.out.bel hbel) hlen)
           go_enter Tryz.func50, Tryz.ntmps50
           go_wp2_with fail
           refine hfc.out.mono ?_
           rintro e w1 ⟨rfl, rfl⟩
           go_wp2_with fail
           all_goals
             go_ret
             refine ⟨ret_bool ?_, hbel⟩
             rw [HF2.out]
             first | done | assumption | (symm; assumption))
    · have hrf : r = false := by
        rw [HF.out]
        unfold Tr.chk Tr.rim
        rw [dec_f (by omega)]; rfl
      have HF2 := Lib.hid hrf
      have HP := Lib.hid hp
      clear HF hrf hp
      go_enter Tryz.func50, Tryz.ntmps50
      go_wp2_with fail
      all_goals first
        | (exfalso; have := HP.out; omega)
        | (go_ret
           exact ⟨ret_bool HF2.out.symm, hbel⟩)
  · have hb0 : (b == 0) = false := by simpa using h0
    have hbt : (bt != 0) = true := by simpa using h1
    by_cases hp : 0 ≤ b ∧ b ≤ 1099511627776 ∧ 0 ≤ bt ∧ bt ≤ 1099511627776 ∧ (0 < b ∨ bt = 0) ∧ (es.length : Int) ≤ 4096 ∧ b + es.length ≤ 1099511627776
    · have fol : r = Tr.fol bt es := by
        rw [HF.out]
        unfold Tr.chk Tr.rim
        rw [dec_t (by omega), Bool.true_and]
      have HF2 := Lib.hid fol
      obtain ⟨p1, p2, p3, p4, p5, p6, p7⟩ := hp
      have q1 : ¬ b < 0 := by omega
      have q2 : ¬ 1099511627776 < b := by omega
      have q3 : ¬ bt < 0 := by omega
      have q4 : ¬ 1099511627776 < bt := by omega
      have q5 : b + es.length ≤ 9223372036854775807 := by omega
      clear fol HF
      first
        | (exfalso; omega)
        | (clear p5
           have hfc := Lib.hid (rfollow_calls bt A cap es _ (HR.out.bel hbel) hlen)
           go_enter Tryz.func50, Tryz.ntmps50
           go_wp2_with fail
           refine hfc.out.mono ?_
           rintro e w1 ⟨rfl, rfl⟩
           go_wp2_with fail
           all_goals
             go_ret
             refine ⟨ret_bool ?_, hbel⟩
             rw [HF2.out]
             first | done | assumption | (symm; assumption))
    · have hrf : r = false := by
        rw [HF.out]
        unfold Tr.chk Tr.rim
        rw [dec_f (by omega)]; rfl
      have HF2 := Lib.hid hrf
      have HP := Lib.hid hp
      clear HF hrf hp
      go_enter Tryz.func50, Tryz.ntmps50
      go_wp2_with fail
      all_goals first
        | (exfalso; have := HP.out; omega)
        | (go_ret
           exact ⟨ret_bool HF2.out.symm, hbel⟩)
end Go.Proofs.YtdladjgdhnkkcaaGreat

/-
  Contracts of the reference of layer 13: Last, Term, Newer.
  Conditions: the entries can be read.
-/
namespace Go.Proofs.YtdladjgdhnkkcaaGreat
open Go.RowKit
set_option linter.unusedVariables false
set_option linter.unusedSimpArgs false

set_option maxRecDepth 20000 in
set_option maxHeartbeats 1000000 in
theorem rlast2_calls (b bt : Int) (A : Option Addr) (cap : Nat) (es : List En) (w : World) (hR : RdE w A es) (hlen : es.length ≤ 9223372036854775807) :
    Calls Tryz.prog 51 #[trV b bt A es.length cap] w fun e w' => e = .returned (.tuple #[.int .i64 (Tr.lastN b bt es), .int .i64 (Tr.lastT b bt es)]) ∧ Below w.heap.size w w' := by
  have hck := Lib.hid (fun W hb => rcheck_calls b bt A cap es W (hR.bel hb) hlen)
  have HR := Lib.hid hR
  obtain ⟨x, hx⟩ : ∃ x, x = Tr.lastN b bt es := ⟨_, rfl⟩
  obtain ⟨y, hy⟩ : ∃ y, y = Tr.lastT b bt es := ⟨_, rfl⟩
  rw [← hx, ← hy]
  unfold Tr.lastN at hx
  unfold Tr.lastT at hy
  by_cases hc : Tr.chk b bt es = true
  · rw [if_pos hc] at hx hy
    subst hx
    have hr := Tr.chk_rim hc
    rw [hc] at hck
    clear hc hR
    by_cases h0 : es.length = 0
    · obtain rfl := List.eq_nil_of_length_eq_zero h0
      have hy2 : y = bt := by rw [hy]; unfold Tr.trm; rw [if_pos (by simp)]
      have hx2 : b + (([] : List En).length : Int) = b := by simp
      rw [hx2]
      subst hy2
      simp only [List.length_nil] at hck ⊢
      clear hr hy hx2 h0
      go_enter Tryz.func51, Tryz.ntmps51
      go_wp2_with fail
      refine (hck.out _ ((Below.refl _ _).alloc (Nat.le_refl _) _)).mono ?_
      rintro e w1 ⟨rfl, hb1⟩
      obtain ⟨hw1, hB1⟩ := box_bel hb1
      have hc1 := hB1.cells
      clear hb1
      go_wp2_with fail
      go_region
      go_wp2_with fail
      go_ret2
      exact ⟨rfl, bel_drew hw1⟩
    · have hi : es.length - 1 < es.length := by omega
      obtain ⟨bl, off, rfl, hbl, hc1, _⟩ := HR.out _ hi
      unfold Tr.trm at hy
      rw [if_neg (by omega), show (b + (es.length : Int) - b - 1).toNat = es.length - 1 from by omega] at hy
      rw [← hy] at hc1
      have he : ((es.length : Int) == 0) = false := by rw [beq_eq_false_iff_ne]; omega
      have k1 : 0 ≤ (es.length : Int) - 1 := by omega
      have k2 : (es.length : Int) - 1 < (es.length : Int) := by omega
      have k3 : b + (es.length : Int) ≤ 9223372036854775807 := by omega
      have k4 : -9223372036854775808 ≤ b + (es.length : Int) := by omega
      clear hr hi hy h0
      go_enter Tryz.func51, Tryz.ntmps51
      go_wp2_with fail
      refine (hck.out _ ((Below.refl _ _).alloc (Nat.le_refl _) _)).mono ?_
      rintro e w1 ⟨rfl, hb1⟩
      obtain ⟨hw1, hB1⟩ := box_bel hb1
      have hcb := hB1.cells
      have hc := (hw1.cell (p := ⟨bl, off + (es.length - 1) * 2, none⟩) hbl).trans hc1
      clear hb1 hc1
      go_wp2_with fail
      go_region
      go_wp2_with fail
      go_ret2
      exact ⟨rfl, bel_drew hw1⟩
  · rw [if_neg hc] at hx hy
    subst hx
    subst hy
    simp only [Bool.not_eq_true] at hc
    rw [hc] at hck
    go_enter Tryz.func51, Tryz.ntmps51
    go_wp2_with fail
    refine (hck.out _ ((Below.refl _ _).alloc (Nat.le_refl _) _)).mono ?_
    rintro e w1 ⟨rfl, hb1⟩
    go_wp2_with fail
    go_ret2
    exact ⟨rfl, (box_bel hb1).1⟩

set_option maxRecDepth 20000 in
set_option maxHeartbeats 1000000 in
theorem rterm2_calls (b bt n : Int) (A : Option Addr) (cap : Nat) (es : List En) (w : World) (hR : RdE w A es) (hlen : es.length ≤ 9223372036854775807) :
    Calls Tryz.prog 74 #[trV b bt A es.length cap, .int .i64 n] w fun e w' => e = .returned (.tuple #[.int .i64 (if Tr.has b bt es n then Tr.trm b bt es n else 0), .bool (Tr.has b bt es n)]) ∧ Below w.heap.size w w' := by
  have hck := Lib.hid (fun W hb => rcheck_calls b bt A cap es W (hR.bel hb) hlen)
  have HR := Lib.hid hR
  obtain ⟨x, hx⟩ : ∃ x, x = (if Tr.has b bt es n then Tr.trm b bt es n else 0) := ⟨_, rfl⟩
  obtain ⟨y, hy⟩ : ∃ y, y = Tr.has b bt es n := ⟨_, rfl⟩
  rw [← hx, ← hy]
  rw [← hy] at hx
  unfold Tr.has at hy
  by_cases hc : Tr.chk b bt es = true
  · have hr := Tr.chk_rim hc
    rw [hc] at hck hy
    rw [Bool.true_and] at hy
    clear hc hR
    have k3 : b + (es.length : Int) ≤ 9223372036854775807 := by omega
    have k4 : -9223372036854775808 ≤ b + (es.length : Int) := by omega
    by_cases hn : b ≤ n ∧ n ≤ b + es.length
    · rw [dec_t hn] at hy
      subst hy
      rw [if_pos rfl] at hx
      have n1 : ¬ n < b := by omega
      have n2 : ¬ b + (es.length : Int) < n := by omega
      unfold Tr.trm at hx
      by_cases hnb : n = b
      · subst hnb
        rw [if_pos rfl] at hx
        subst hx
        clear hr hn n1
        go_enter Tryz.func74, Tryz.ntmps74
        go_wp2_with fail
        refine (hck.out _ ((Below.refl _ _).alloc (Nat.le_refl _) _)).mono ?_
        rintro e w1 ⟨rfl, hb1⟩
        obtain ⟨hw1, hB1⟩ := box_bel hb1
        have hc1 := hB1.cells
        clear hb1
        go_wp2_with fail
        go_ret2
        exact ⟨rfl, hw1⟩
      · rw [if_neg hnb] at hx
        have hi : (n - b - 1).toNat < es.length := by omega
        obtain ⟨bl, off, rfl, hbl, hc1, _⟩ := HR.out _ hi
        rw [← hx] at hc1
        have k0 : (n == b) = false := by simpa using hnb
        have k1 : 0 ≤ n - b - 1 := by omega
        have k2 : n - b - 1 < (es.length : Int) := by omega
        have k5 : n - b ≤ 9223372036854775807 := by omega
        have hc2 : w.cell? ⟨bl, off + ((n - b).toNat - 1) * 2, none⟩ = some (.int .i64 x) := by
          rw [show (n - b).toNat - 1 = (n - b - 1).toNat from by omega]; exact hc1
        clear hr hn hx hnb hc1
        go_enter Tryz.func74, Tryz.ntmps74
        go_wp2_with fail
        refine (hck.out _ ((Below.refl _ _).alloc (Nat.le_refl _) _)).mono ?_
        rintro e w1 ⟨rfl, hb1⟩
        obtain ⟨hw1, hB1⟩ := box_bel hb1
        have hc1 := hB1.cells
        have hc3 := (hw1.cell (p := ⟨bl, off + ((n - b).toNat - 1) * 2, none⟩) hbl).trans hc2
        clear hb1 hc2
        go_wp2_with fail
        go_ret2
        exact ⟨rfl, hw1⟩
    · rw [dec_f hn] at hy
      subst hy
      rw [if_neg (by simp)] at hx
      subst hx
      clear hr
      by_cases n1 : n < b
      · clear hn
        go_enter Tryz.func74, Tryz.ntmps74
        go_wp2_with fail
        refine (hck.out _ ((Below.refl _ _).alloc (Nat.le_refl _) _)).mono ?_
        rintro e w1 ⟨rfl, hb1⟩
        obtain ⟨hw1, hB1⟩ := box_bel hb1
        have hc1 := hB1.cells
        clear hb1
        go_wp2_with fail
        go_ret2
        exact ⟨rfl, hw1⟩
      · have n2 : b + (es.length : Int) < n := by omega
        clear hn
        go_enter Tryz.func74, Tryz.ntmps74
        go_wp2_with fail
        refine (hck.out _ ((Below.refl _ _).alloc (Nat.le_refl _) _)).mono ?_
        rintro e w1 ⟨rfl, hb1⟩
        obtain ⟨hw1, hB1⟩ := box_bel hb1
        have hc1 := hB1.cells
        clear hb1
        go_wp2_with fail
        go_ret2
        exact ⟨rfl, hw1⟩
  · simp only [Bool.not_eq_true] at hc
    rw [hc] at hck hy
    rw [Bool.false_and] at hy
    subst hy
    rw [if_neg (by simp)] at hx
    subst hx
    go_enter Tryz.func74, Tryz.ntmps74
    go_wp2_with fail
    refine (hck.out _ ((Below.refl _ _).alloc (Nat.le_refl _) _)).mono ?_
    rintro e w1 ⟨rfl, hb1⟩
    go_wp2_with fail
    go_ret2
    exact ⟨rfl, (box_bel hb1).1⟩

set_option maxRecDepth 20000 in
set_option maxHeartbeats 1000000 in
theorem rnewer_calls (b bt n t : Int) (A : Option Addr) (cap : Nat) (es : List En) (w : World) (hR : RdE w A es) (hlen : es.length ≤ 9223372036854775807) :
    Calls Tryz.prog 69 #[trV b bt A es.length cap, .int .i64 n, .int .i64 t] w fun e w' => e = .returned (.bool (Tr.newer b bt es n t)) ∧ Below w.heap.size w w' := by
  have hck := Lib.hid (fun W hb => rcheck_calls b bt A cap es W (hR.bel hb) hlen)
  have hl := Lib.hid (fun W hb => rlast2_calls b bt A cap es W (hR.bel hb) hlen)
  obtain ⟨r, hr⟩ : ∃ r, r = Tr.newer b bt es n t := ⟨_, rfl⟩
  rw [← hr]
  unfold Tr.newer at hr
  by_cases hc : Tr.chk b bt es = true
  · rw [hc] at hck hr
    rw [Bool.true_and] at hr
    clear hc hR
    generalize Tr.lastN b bt es = x at *
    generalize Tr.lastT b bt es = y at *
    have HF := Lib.hid hr
    clear hr
    go_enter Tryz.func69, Tryz.ntmps69
    go_wp2_with fail
    refine (hck.out _ ((Below.refl _ _).alloc (Nat.le_refl _) _)).mono ?_
    rintro e w1 ⟨rfl, hb1⟩
    obtain ⟨hw1, hB1⟩ := box_bel hb1
    have hc1 := hB1.cells
    clear hb1
    go_wp2_with fail
    refine (hl.out _ hw1).mono ?_
    rintro e w2 ⟨rfl, hb2⟩
    have hw2 := bel_tr hw1 hb2
    clear hc1 hB1 hw1 hb2
    have hty : (t != y) = decide (¬ t = y) := by rw [Bool.eq_iff_iff]; simp
    by_cases h2 : t = y
    · subst h2
      go_wp2_with fail
      all_goals
        go_ret
        exact ⟨ret_bool (by rw [HF.out]; simp), hw2⟩
    · rw [dec_t h2] at hty
      have H2 := Lib.hid h2
      clear h2
      go_wp2_with fail
      all_goals
        go_ret
        exact ⟨ret_bool (by rw [HF.out, dec_f H2.out]; simp), hw2⟩
  · simp only [Bool.not_eq_true] at hc
    rw [hc] at hck hr
    rw [Bool.false_and] at hr
    subst hr
    clear hl hR
    go_enter Tryz.func69, Tryz.ntmps69
    go_wp2_with fail
    refine (hck.out _ ((Below.refl _ _).alloc (Nat.le_refl _) _)).mono ?_
    rintro e w1 ⟨rfl, hb1⟩
    go_wp2_with fail
    go_ret
    exact ⟨rfl, (box_bel hb1).1⟩
end Go.Proofs.YtdladjgdhnkkcaaGreat
