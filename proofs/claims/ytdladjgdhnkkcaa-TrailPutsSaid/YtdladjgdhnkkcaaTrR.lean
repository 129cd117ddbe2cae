/-
  Contracts of the reference of layer 13: Append, Cut.
  Conditions: the entries can be read.
-/
import Derived.Test.YtdladjgdhnkkcaaTrW
namespace Go.Proofs.Ytdladjgdhnkkcaa
open Go.RowKit
set_option linter.unusedVariables false
set_option linter.unusedSimpArgs false

set_option maxRecDepth 20000 in
set_option maxHeartbeats 4000000 in
theorem rcut_calls (b bt to : Int) (A : Option Addr) (cap : Nat) (es : List En) (w : World) (hR : RdE w A es) (hlen : es.length ≤ 2 ^ 47) (hcap : es.length ≤ cap) :
    Calls Try.prog 28 #[trV b bt A es.length cap, .int .i64 to] w fun e w' => (∃ v, e = .returned v ∧ ResT w.heap.size to (Tr.trm b bt es to) (if Tr.has b bt es to then some (es.drop (to - b).toNat) else none) v w') ∧ Below w.heap.size w w' := by
  have ht := Lib.hid (fun W hb => rterm2_calls b bt to A cap es W (hR.bel hb) (by omega))
  have HR := Lib.hid hR
  have hS := Lib.hid (((SW.nil w).new 24 #[.int .i64 b, .int .i64 bt, .slice A es.length cap] w.heap.size rfl).new 24 zT (w.heap.size + 1) (by simp))
  by_cases hc : Tr.has b bt es to = true
  · rw [hc] at ht
    simp only [if_true] at ht
    rw [if_pos hc]
    obtain ⟨hc1, h2, h3⟩ := Tr.has_chk hc
    have hr := Tr.chk_rim hc1
    generalize Tr.trm b bt es to = x at *
    obtain ⟨k, rfl⟩ : ∃ k : Nat, to = b + k := ⟨(to - b).toNat, by omega⟩
    have e1 : b + (k : Int) - b = (k : Int) := by omega
    rw [e1, Int.toNat_natCast]
    have k1 : (k : Int) ≤ (es.length : Int) := by omega
    have hdl : es.length - k = (es.drop k).length := by simp
    have HL := Lib.hid hr
    have HD := Lib.hid hdl
    clear hc hc1 h2 h3 hr hdl hR
    by_cases hck : cap = k
    · subst hck
      have hz : es.length - cap = 0 := by omega
      have hnil : es.drop cap = [] := List.drop_of_length_le (by omega)
      have HNIL := Lib.hid hnil
      rw [hz] at HD
      clear hnil
      go_enter Try.func28, Try.ntmps28
      go_wp2_with fail
      refine (ht.out _ hS.out.1).mono ?_
      rintro e w1 ⟨rfl, hb1⟩
      have hs1 := Lib.hid (hS.out.bel hb1)
      have c0 := (hs1.out.at_ 0 rfl).cells
      have hg := (hs1.out.at_ 1 rfl).lt
      have hsz := hs1.out.1.size
      have hne : w.heap.size ≠ w1.heap.size := by omega
      have cE := ((hs1.out.at_ 0 rfl).alloc (.cells #[] 32)).cells
      clear hb1 hS ht
      go_wp2_with (first
        | (at_builtin
           refine wpList_appE rfl (.tmp 19) (.tmp 26) rfl w1.heap.size _ [] rfl (OwnE.lit w1 w1.heap.size (Nat.le_refl _) [] (by simp) #[] rfl) A 0 0 [] rfl rfl (RdE.nil _ _) (by simp) (by simp) ?_
           intro v2 w2 ho2 hg2 _
           have hb2 := Lib.hid (OwnE.grown (OwnE.lit w1 w1.heap.size (Nat.le_refl _) [] (by simp) #[] rfl) ((Below.refl _ _).alloc (Nat.le_refl _) _) (by simp) hg2)
           have hs2 := Lib.hid (hs1.out.bel hb2.out)
           have hB := hs2.out.at_ 1 rfl
           have c2 := hB.cells
           have f2 := hB.free
           rw [List.nil_append] at ho2
           obtain ⟨A2, cap2, rfl, q1, q2, q3⟩ := ho2.form
           clear hg2))
      refine bodyPost_ret (v := .tuple #[trV (b + cap) x A2 0 cap2, .bool true]) (by simp [results, Try.results28, go_sem, c2]) rfl ⟨⟨_, rfl, ⟨A2, cap2, (by rw [HNIL.out]; rfl), (by rw [HNIL.out]; simp), by rw [HNIL.out]; exact RdE.nil _ _, fun g off sp e => ?_⟩⟩, put3_bel hs2.out.1 (by omega)⟩
      have := (q3 g off sp e).1
      omega
    · have hrd := HR.out.drop k cap hcap
      rw [if_neg hck] at hrd
      have HRD := Lib.hid hrd
      clear hrd
      go_enter Try.func28, Try.ntmps28
      go_wp2_with fail
      refine (ht.out _ hS.out.1).mono ?_
      rintro e w1 ⟨rfl, hb1⟩
      have hs1 := Lib.hid (hS.out.bel hb1)
      have c0 := (hs1.out.at_ 0 rfl).cells
      have hg := (hs1.out.at_ 1 rfl).lt
      have hsz := hs1.out.1.size
      have hne : w.heap.size ≠ w1.heap.size := by omega
      have cE := ((hs1.out.at_ 0 rfl).alloc (.cells #[] 32)).cells
      clear hb1 hS ht
      go_wp2_with (first
        | (at_builtin
           refine wpList_appE rfl (.tmp 19) (.tmp 26) rfl w1.heap.size _ [] rfl (OwnE.lit w1 w1.heap.size (Nat.le_refl _) [] (by simp) #[] rfl) (A.map (·.add (k * 2))) (es.length - k) (cap - k) (es.drop k) rfl HD.out ((HRD.out.bel hs1.out.1).bel (bel_new (Below.refl _ _) _)) (by have := HL.out; simp; omega) (by simp) ?_
           intro v2 w2 ho2 hg2 _
           have hb2 := Lib.hid (OwnE.grown (OwnE.lit w1 w1.heap.size (Nat.le_refl _) [] (by simp) #[] rfl) ((Below.refl _ _).alloc (Nat.le_refl _) _) (by simp) hg2)
           have hs2 := Lib.hid (hs1.out.bel hb2.out)
           have hB := hs2.out.at_ 1 rfl
           have c2 := hB.cells
           have f2 := hB.free
           rw [List.nil_append] at ho2
           obtain ⟨A2, cap2, rfl, q1, q2, q3⟩ := ho2.form
           clear hg2))
      refine bodyPost_ret (v := .tuple #[trV (b + k) x A2 (es.drop k).length cap2, .bool true]) (by simp [results, Try.results28, go_sem, c2]) rfl ⟨⟨_, rfl, ⟨A2, cap2, rfl, q1, put3_rd q2 ?_, fun g off sp e => ?_⟩⟩, put3_bel hs2.out.1 (by omega)⟩
      · intro g off sp e
        have := (q3 g off sp e).1
        omega
      · have := (q3 g off sp e).1
        omega
  · rw [if_neg hc]
    simp only [Bool.not_eq_true] at hc
    rw [hc] at ht
    simp only [Bool.false_eq_true, if_false] at ht
    clear hR hc
    go_enter Try.func28, Try.ntmps28
    go_wp2_with fail
    refine (ht.out _ hS.out.1).mono ?_
    rintro e w1 ⟨rfl, hb1⟩
    have hs1 := Lib.hid (hS.out.bel hb1)
    have hB := hs1.out.at_ 1 rfl
    have c2 := hB.cells
    have f2 := hB.free
    clear hb1 hS
    go_wp2_with fail
    refine bodyPost_ret (v := .tuple #[trV 0 0 none 0 0, .bool false]) (by simp [results, Try.results28, go_sem, c2]) rfl ⟨⟨_, rfl, rfl⟩, put3_bel hs1.out.1 (by omega)⟩
end Go.Proofs.Ytdladjgdhnkkcaa
