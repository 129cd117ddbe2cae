/-
  Contracts of the reference of layer 13: Follow, Check, Last, Term, Newer.
  Conditions: the entries can be read.
-/
import Derived.Test.YtdladjgdhnkkcaaTr2
namespace Go.Proofs.Ytdladjgdhnkkcaa
open Go.RowKit
set_option linter.unusedVariables false
set_option linter.unusedSimpArgs false

set_option maxHeartbeats 1000000 in
theorem rfollow_calls (t : Int) (A : Option Addr) (cap : Nat) (es : List En) (w : World) (hR : RdE w A es) (hlen : es.length ≤ 9223372036854775807) :
    Calls Try.prog 64 #[.int .i64 t, .slice A es.length cap] w fun e w' => e = .returned (.bool (Tr.fol t es)) ∧ w' = w := by
  obtain ⟨r, hr⟩ : ∃ r, r = Tr.fol t es := ⟨_, rfl⟩
  rw [← hr]
  have HR := Lib.hid hR
  have HF := Lib.hid hr
  clear hr hR
  go_enter Try.func64, Try.ntmps64
  go_wp2_with fail
  go_loopg [0, 5] es.length (fun g v0 v5 w' => w' = w ∧ ∃ (k : Nat) (t' : Int), k + g = es.length ∧ v5 = .int .i64 k ∧ v0 = .int .i64 t' ∧ Hid (r = Tr.fol t' (es.drop k)))
  case atStart => exact ⟨rfl, 0, t, by omega, rfl, rfl, Lib.hid HF.out⟩
  case round =>
    obtain ⟨rfl, k, t', hk, rfl, rfl, HI⟩ := hrel
    by_cases hlt : k < es.length
    · have hg : 0 < gk := by omega
      have hl : (k : Int) < (es.length : Int) := by omega
      have HK := Lib.hid hk
      clear hk
      obtain ⟨b, off, rfl, hbl, hw1, hw2⟩ := HR.out k hlt
      have hst := fol_step (t := t') hlt
      generalize es.getD k default = c at *
      obtain ⟨ct, cs⟩ := c
      have HS := Lib.hid hst
      clear hst
      simp only at hw1 hw2
      by_cases hok : Tr.ok t' (ct, cs) = true
      · have hok' : t' ≤ ct ∧ 1 ≤ ct ∧ ct ≤ 1099511627776 ∧ cs.size ≤ 4096 := by simpa [Tr.ok] using hok
        have HO := Lib.hid hok
        obtain ⟨o1, o2, o3, o4⟩ := hok'
        have o5 : ¬ (4096 : Int) < (cs.size : Int) := by omega
        have o6 : ¬ ct < t' := by omega
        have o7 : ¬ ct < 1 := by omega
        have o8 : ¬ 1099511627776 < ct := by omega
        clear hok o1 o2 o3 o4
        go_wp2_with fail
        go_roundg (gk - 1)
        case rel => exact ⟨rfl, k + 1, ct, by have := HK.out; omega, by go_num, rfl, Lib.hid (by rw [HI.out, HS.out, HO.out, Bool.true_and])⟩
        case measure => omega
      · have hrf : r = false := by
          rw [HI.out, HS.out]
          simp [hok]
        have hok' : ¬ (t' ≤ ct ∧ 1 ≤ ct ∧ ct ≤ 1099511627776 ∧ (cs.size : Int) ≤ 4096) := by
          intro h; apply hok; simp [Tr.ok]; omega
        have HN := Lib.hid hok'
        have HF2 := Lib.hid hrf
        clear hok hok' hrf
        go_wp2_with fail
        all_goals first
          | (exfalso; have := HN.out; omega)
          | (go_ret
             exact ⟨ret_bool HF2.out.symm, rfl⟩)
    · have hke : k = es.length := by omega
      subst hke
      have hrt : r = true := by rw [HI.out, List.drop_length]; rfl
      have HT := Lib.hid hrt
      clear hk hlt hrt
      go_wp2_with fail
      go_ret
      exact ⟨ret_bool HT.out.symm, rfl⟩

set_option maxRecDepth 20000 in
set_option maxHeartbeats 1000000 in
theorem rcheck_calls (b bt : Int) (A : Option Addr) (cap : Nat) (es : List En) (w : World) (hR : RdE w A es) (hlen : es.length ≤ 9223372036854775807) :
    Calls Try.prog 31 #[trV b bt A es.length cap] w fun e w' => e = .returned (.bool (Tr.chk b bt es)) ∧ Below w.heap.size w w' := by
  obtain ⟨r, hr⟩ : ∃ r, r = Tr.chk b bt es := ⟨_, rfl⟩
  rw [← hr]
  have HR := Lib.hid hR
  have HF := Lib.hid hr
  clear hr hR
  have hbel : Below w.heap.size w (w.alloc (.cells #[.int .i64 b, .int .i64 bt, .slice A es.length cap] 24)) := (Below.refl _ _).alloc (Nat.le_refl _) _
  rcases Decidable.em (b = 0) with rfl | h0
  all_goals rcases Decidable.em (bt = 0) with rfl | h1
  · by_cases hp : 0 ≤ (0 : Int) ∧ (0 : Int) ≤ 1099511627776 ∧ 0 ≤ (0 : Int) ∧ (0 : Int) ≤ 1099511627776 ∧ (0 < (0 : Int) ∨ (0 : Int) = 0) ∧ (es.length : Int) ≤ 4096 ∧ (0 : Int) + es.length ≤ 1099511627776
    · have fol : r = Tr.fol (0 : Int) es := by
        rw [HF.out]
        unfold Tr.chk Tr.rim
        rw [dec_t (by omega), Bool.true_and]
      have HF2 := Lib.hid fol
      obtain ⟨p1, p2, p3, p4, p5, p6, p7⟩ := hp
      have q1 : ¬ (0 : Int) < 0 := by omega
      have q2 : ¬ 1099511627776 < (0 : Int) := by omega
      have q3 : ¬ (0 : Int) < 0 := by omega
      have q4 : ¬ 1099511627776 < (0 : Int) := by omega
      have q5 : (0 : Int) + es.length ≤ 9223372036854775807 := by omega
      clear fol HF
      first
        | (exfalso; omega)
        | (clear p5
           have hfc := Lib.hid (rfollow_calls (0 : Int) A cap es _ (HR.out.bel hbel) hlen)
           go_enter Try.func31, Try.ntmps31
           go_wp2_with fail
           refine hfc.out.mono ?_
           rintro e w1 ⟨rfl, rfl⟩
           go_wp2_with fail
           all_goals
             go_ret
             refine ⟨ret_bool ?_, hbel⟩
             rw [HF2.out]
             first | done | assumption | (symm; assumption))
    · have hrf : r = false := by
        rw [HF.out]
        unfold Tr.chk Tr.rim
        rw [dec_f (by omega)]; rfl
      have HF2 := Lib.hid hrf
      have HP := Lib.hid hp
      have hx : (4096 : Int) < (es.length : Int) := by omega
      clear HF hrf hp
      go_enter Try.func31, Try.ntmps31
      go_wp2_with fail
      all_goals first
        | (exfalso; have := HP.out; omega)
        | (go_ret
           exact ⟨ret_bool HF2.out.symm, hbel⟩)
  · have hbt : (bt != 0) = true := by simpa using h1
    by_cases hp : 0 ≤ (0 : Int) ∧ (0 : Int) ≤ 1099511627776 ∧ 0 ≤ bt ∧ bt ≤ 1099511627776 ∧ (0 < (0 : Int) ∨ bt = 0) ∧ (es.length : Int) ≤ 4096 ∧ (0 : Int) + es.length ≤ 1099511627776
    · have fol : r = Tr.fol bt es := by
        rw [HF.out]
        unfold Tr.chk Tr.rim
        rw [dec_t (by omega), Bool.true_and]
      have HF2 := Lib.hid fol
      obtain ⟨p1, p2, p3, p4, p5, p6, p7⟩ := hp
      have q1 : ¬ (0 : Int) < 0 := by omega
      have q2 : ¬ 1099511627776 < (0 : Int) := by omega
      have q3 : ¬ bt < 0 := by omega
      have q4 : ¬ 1099511627776 < bt := by omega
      have q5 : (0 : Int) + es.length ≤ 9223372036854775807 := by omega
      clear fol HF
      first
        | (exfalso; omega)
        | (clear p5
           have hfc := Lib.hid (rfollow_calls bt A cap es _ (HR.out.bel hbel) hlen)
           go_enter Try.func31, Try.ntmps31
           go_wp2_with fail
           refine hfc.out.mono ?_
           rintro e w1 ⟨rfl, rfl⟩
           go_wp2_with fail
           all_goals
             go_ret
             refine ⟨ret_bool ?_, hbel⟩
             rw [HF2.out]
             first | done | assumption | (symm; assumption))
    · have hrf : r = false := by
        rw [HF.out]
        unfold Tr.chk Tr.rim
        rw [dec_f (by omega)]; rfl
      have HF2 := Lib.hid hrf
      have HP := Lib.hid hp
      clear HF hrf hp
      go_enter Try.func31, Try.ntmps31
      go_wp2_with fail
      all_goals first
        | (exfalso; have := HP.out; omega)
        | (go_ret
           exact ⟨ret_bool HF2.out.symm, hbel⟩)
  · have hb0 : (b == 0) = false := by simpa using h0
    by_cases hp : 0 ≤ b ∧ b ≤ 1099511627776 ∧ 0 ≤ (0 : Int) ∧ (0 : Int) ≤ 1099511627776 ∧ (0 < b ∨ (0 : Int) = 0) ∧ (es.length : Int) ≤ 4096 ∧ b + es.length ≤ 1099511627776
    · have fol : r = Tr.fol (0 : Int) es := by
        rw [HF.out]
        unfold Tr.chk Tr.rim
        rw [dec_t (by omega), Bool.true_and]
      have HF2 := Lib.hid fol
      obtain ⟨p1, p2, p3, p4, p5, p6, p7⟩ := hp
      have q1 : ¬ b < 0 := by omega
      have q2 : ¬ 1099511627776 < b := by omega
      have q3 : ¬ (0 : Int) < 0 := by omega
      have q4 : ¬ 1099511627776 < (0 : Int) := by omega
      have q5 : b + es.length ≤ 9223372036854775807 := by omega
      clear fol HF
      first
        | (exfalso; omega)
        | (clear p5
           have hfc := Lib.hid (rfollow_calls (0 : Int) A cap es _ (HR.out.bel hbel) hlen)
           go_enter Try.func31, Try.ntmps31
           go_wp2_with fail
           refine hfc.out.mono ?_
           rintro e w1 ⟨rfl, rfl⟩
           go_wp2_with fail
           all_goals
             go_ret
             refine ⟨ret_bool ?_, hbel⟩
             rw [HF2.out]
             first | done | assumption | (symm; assumption))
    · have hrf : r = false := by
        rw [HF.out]
        unfold Tr.chk Tr.rim
        rw [dec_f (by omega)]; rfl
      have HF2 := Lib.hid hrf
      have HP := Lib.hid hp
      clear HF hrf hp
      go_enter Try.func31, Try.ntmps31
      go_wp2_with fail
      all_goals first
        | (exfalso; have := HP.out; omega)
        | (go_ret
           exact ⟨ret_bool HF2.out.symm, hbel⟩)
  · have hb0 : (b == 0) = false := by simpa using h0
    have hbt : (bt != 0) = true := by simpa using h1
    by_cases hp : 0 ≤ b ∧ b ≤ 1099511627776 ∧ 0 ≤ bt ∧ bt ≤ 1099511627776 ∧ (0 < b ∨ bt = 0) ∧ (es.length : Int) ≤ 4096 ∧ b + es.length ≤ 1099511627776
    · have fol : r = Tr.fol bt es := by
        rw [HF.out]
        unfold Tr.chk Tr.rim
        rw [dec_t (by omega), Bool.true_and]
      have HF2 := Lib.hid fol
      obtain ⟨p1, p2, p3, p4, p5, p6, p7⟩ := hp
      have q1 : ¬ b < 0 := by omega
      have q2 : ¬ 1099511627776 < b := by omega
      have q3 : ¬ bt < 0 := by omega
      have q4 : ¬ 1099511627776 < bt := by omega
      have q5 : b + es.length ≤ 9223372036854775807 := by omega
      clear fol HF
      first
        | (exfalso; omega)
        | (clear p5
           have hfc := Lib.hid (rfollow_calls bt A cap es _ (HR.out.bel hbel) hlen)
           go_enter Try.func31, Try.ntmps31
           go_wp2_with fail
           refine hfc.out.mono ?_
           rintro e w1 ⟨rfl, rfl⟩
           go_wp2_with fail
           all_goals
             go_ret
             refine ⟨ret_bool ?_, hbel⟩
             rw [HF2.out]
             first | done | assumption | (symm; assumption))
    · have hrf : r = false := by
        rw [HF.out]
        unfold Tr.chk Tr.rim
        rw [dec_f (by omega)]; rfl
      have HF2 := Lib.hid hrf
      have HP := Lib.hid hp
      clear HF hrf hp
      go_enter Try.func31, Try.ntmps31
      go_wp2_with fail
      all_goals first
        | (exfalso; have := HP.out; omega)
        | (go_ret
           exact ⟨ret_bool HF2.out.symm, hbel⟩)
end Go.Proofs.Ytdladjgdhnkkcaa
