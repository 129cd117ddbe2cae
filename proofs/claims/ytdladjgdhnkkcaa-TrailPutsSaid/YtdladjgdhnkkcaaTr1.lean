/-
  Contracts of the package trail: follow, last, Check.
  Conditions: the entries can be read.
-/
import Derived.Test.YtdladjgdhnkkcaaTrA
import Derived.Test.YtdladjgdhnkkcaaTrP
namespace Go.Proofs.Ytdladjgdhnkkcaa
open Go.RowKit
set_option linter.unusedVariables false
set_option linter.unusedSimpArgs false

theorem fol_step {es : List En} {k : Nat} {t : Int} (h : k < es.length) : Tr.fol t (es.drop k) = (Tr.ok t (es.getD k default) && Tr.fol (es.getD k default).1 (es.drop (k + 1))) := by
  rw [List.drop_eq_getElem_cons h, Tr.fol]
  simp [List.getD, h]

set_option maxHeartbeats 1000000 in
theorem follow_calls (t : Int) (A : Option Addr) (cap : Nat) (es : List En) (w : World) (hR : RdE w A es) (hlen : es.length ≤ 9223372036854775807) :
    Calls Try.prog 60 #[.int .i64 t, .slice A es.length cap] w fun e w' => e = .returned (.bool (Tr.fol t es)) ∧ Below w.heap.size w w' := by
  obtain ⟨r, hr⟩ : ∃ r, r = Tr.fol t es := ⟨_, rfl⟩
  rw [← hr]
  have HR := Lib.hid hR
  have HF := Lib.hid hr
  clear hr hR
  go_enter Try.func60, Try.ntmps60
  go_wp2_with fail
  go_loopg [0, 6, 9] es.length (fun g v0 v6 v9 w' => ∃ (k : Nat) (t' : Int), k + g = es.length ∧ v9 = .int .i64 k ∧ v0 = .int .i64 t' ∧ Below w.heap.size w w' ∧ Hid (r = Tr.fol t' (es.drop k)))
  case atStart => exact ⟨0, t, by omega, rfl, rfl, Below.refl _ _, Lib.hid HF.out⟩
  case round =>
    obtain ⟨k, t', hk, rfl, rfl, hb, HI⟩ := hrel
    by_cases hlt : k < es.length
    · have hg : 0 < gk := by omega
      have hl : (k : Int) < (es.length : Int) := by omega
      have HK := Lib.hid hk
      clear hk
      obtain ⟨b, off, rfl, hbl, hc1, hc2⟩ := HR.out k hlt
      have hw1 := (hb.cell (p := ⟨b, off + k * 2, none⟩) hbl).trans hc1
      have hw2 := (hb.cell (p := ⟨b, off + k * 2 + 1, none⟩) hbl).trans hc2
      have hst := fol_step (t := t') hlt
      generalize es.getD k default = c at *
      obtain ⟨ct, cs⟩ := c
      have HS := Lib.hid hst
      clear hst hc1 hc2
      simp only at hw1 hw2
      by_cases hok : Tr.ok t' (ct, cs) = true
      · have hok' : t' ≤ ct ∧ 1 ≤ ct ∧ ct ≤ 1099511627776 ∧ cs.size ≤ 4096 := by simpa [Tr.ok] using hok
        have HO := Lib.hid hok
        obtain ⟨o1, o2, o3, o4⟩ := hok'
        have o5 : (cs.size : Int) ≤ 4096 := by omega
        have o6 : ¬ ct < max t' 1 := by omega
        clear hok
        go_wp2_with fail
        all_goals first
          | omega
          | (go_roundg (gk - 1)
             case rel => exact ⟨k + 1, ct, by have := HK.out; omega, by go_num, rfl, bel_new hb _, Lib.hid (by rw [HI.out, HS.out, HO.out, Bool.true_and])⟩
             case measure => omega)
      · have hrf : r = false := by
          rw [HI.out, HS.out]
          simp [hok]
        have hok' : ¬ (t' ≤ ct ∧ 1 ≤ ct ∧ ct ≤ 1099511627776 ∧ (cs.size : Int) ≤ 4096) := by
          intro h; apply hok; simp [Tr.ok]; omega
        have HN := Lib.hid hok'
        have HF2 := Lib.hid hrf
        clear hok hok' hrf
        go_wp2_with fail
        all_goals first
          | (exfalso; have := HN.out; omega)
          | (go_ret
             exact ⟨ret_bool HF2.out.symm, bel_new hb _⟩)
    · have hke : k = es.length := by omega
      subst hke
      have hrt : r = true := by rw [HI.out, List.drop_length]; rfl
      have HT := Lib.hid hrt
      clear hk hlt hrt
      go_wp2_with fail
      go_ret
      exact ⟨ret_bool HT.out.symm, hb⟩

theorem last_calls (b bt : Int) (A : Option Addr) (n cap : Nat) (w : World) (h0 : -9223372036854775808 ≤ b + n) (h1 : b + n ≤ 9223372036854775807) :
    Calls Try.prog 62 #[trV b bt A n cap] w fun e w' => e = .returned (.int .i64 (b + n)) ∧ Below w.heap.size w w' := by
  go_enter Try.func62, Try.ntmps62
  go_wp2_with fail
  go_ret
  exact ⟨rfl, (Below.refl _ _).alloc (Nat.le_refl _) _⟩

set_option maxRecDepth 20000 in
set_option maxHeartbeats 1000000 in
theorem check_calls (b bt : Int) (A : Option Addr) (cap : Nat) (es : List En) (w : World) (hR : RdE w A es) (hlen : es.length ≤ 9223372036854775807) :
    Calls Try.prog 19 #[trV b bt A es.length cap] w fun e w' => e = .returned (.bool (Tr.chk b bt es)) ∧ Below w.heap.size w w' := by
  obtain ⟨r, hr⟩ : ∃ r, r = Tr.chk b bt es := ⟨_, rfl⟩
  rw [← hr]
  have HR := Lib.hid hR
  have HF := Lib.hid hr
  clear hr hR
  by_cases hp : 0 ≤ b ∧ b ≤ 1099511627776 ∧ 0 ≤ bt ∧ bt ≤ 1099511627776 ∧ (0 < b ∨ bt = 0) ∧ (es.length : Int) ≤ 4096
  · have HP := Lib.hid hp
    have fol : r = (decide (b + es.length ≤ 1099511627776) && Tr.fol bt es) := by
      rw [HF.out]
      unfold Tr.chk Tr.rim
      congr 1
      rw [Bool.eq_iff_iff]
      simp only [decide_eq_true_eq]
      omega
    have HF2 := Lib.hid fol
    obtain ⟨p1, p2, p3, p4, p5, p6⟩ := hp
    clear fol HF
    have hor : (decide (0 < b) || (bt == 0)) = true := by simp; exact p5
    have hfc := Lib.hid (fun W hb => follow_calls bt A cap es W (HR.out.bel hb) hlen)
    have hs0 : -9223372036854775808 ≤ b + es.length := by omega
    have hs1 : b + es.length ≤ 9223372036854775807 := by omega
    by_cases hb0 : 0 < b
    rotate_left
    · obtain rfl : bt = 0 := by omega
      clear p5 hor
      go_enter Try.func19, Try.ntmps19
      go_wp2_with fail
      refine (last_calls b 0 A es.length cap _ hs0 hs1).mono ?_
      rintro e w1 ⟨rfl, hb1⟩
      have hw1 := Lib.hid (bel_al (Below.refl _ _) hb1)
      have hB := Lib.hid ((Blk.new w 24 #[.int .i64 b, .int .i64 0, .slice A es.length cap]).bel hb1)
      have hc1 := hB.out.cells 1
      have hc2 := hB.out.cells 2
      simp at hc1 hc2
      clear hb1
      by_cases hl : b + es.length ≤ 1099511627776
      · go_wp2_with fail
        refine (hfc.out _ hw1.out).mono ?_
        rintro e w2 ⟨rfl, hb2⟩
        have HL := Lib.hid hl
        go_wp2_with fail
        all_goals
          go_ret
          refine ⟨ret_bool ?_, bel_tr hw1.out hb2⟩
          rw [HF2.out, dec_t HL.out, Bool.true_and]
          first | done | assumption | (symm; assumption)
      · have HL := Lib.hid hl
        go_wp2_with fail
        all_goals go_ret
        all_goals exact ⟨ret_bool (by rw [HF2.out, dec_f (by have := HL.out; omega)]; rfl), hw1.out⟩
    all_goals
      clear p5 hor
      go_enter Try.func19, Try.ntmps19
      go_wp2_with fail
      refine (last_calls b bt A es.length cap _ hs0 hs1).mono ?_
      rintro e w1 ⟨rfl, hb1⟩
      have hw1 := Lib.hid (bel_al (Below.refl _ _) hb1)
      have hB := Lib.hid ((Blk.new w 24 #[.int .i64 b, .int .i64 bt, .slice A es.length cap]).bel hb1)
      have hc1 := hB.out.cells 1
      have hc2 := hB.out.cells 2
      simp at hc1 hc2
      clear hb1
      by_cases hl : b + es.length ≤ 1099511627776
      · go_wp2_with fail
        refine (hfc.out _ hw1.out).mono ?_
        rintro e w2 ⟨rfl, hb2⟩
        have HL := Lib.hid hl
        go_wp2_with fail
        all_goals
          go_ret
          refine ⟨ret_bool ?_, bel_tr hw1.out hb2⟩
          rw [HF2.out, dec_t HL.out, Bool.true_and]
          first | done | assumption | (symm; assumption)
      · have HL := Lib.hid hl
        go_wp2_with fail
        all_goals go_ret
        all_goals exact ⟨ret_bool (by rw [HF2.out, dec_f (by have := HL.out; omega)]; rfl), hw1.out⟩
  · have hrf : r = false := by
      rw [HF.out]
      unfold Tr.chk Tr.rim
      rw [dec_f (by omega)]; rfl
    have HF2 := Lib.hid hrf
    clear HF hrf
    have hbt : (bt == 0) = decide (bt = 0) := by rw [Bool.eq_iff_iff]; simp
    by_cases hb1 : bt = 0
    all_goals
      simp only [hb1, decide_true, decide_false] at hbt
      have HP := Lib.hid hp
      have HB := Lib.hid hb1
      clear hp hb1
      go_enter Try.func19, Try.ntmps19
      go_wp2_with fail
      all_goals first
        | (exfalso; have := HP.out; have := HB.out; omega)
        | (go_ret
           exact ⟨ret_bool HF2.out.symm, (Below.refl _ _).alloc (Nat.le_refl _) _⟩)
end Go.Proofs.Ytdladjgdhnkkcaa
