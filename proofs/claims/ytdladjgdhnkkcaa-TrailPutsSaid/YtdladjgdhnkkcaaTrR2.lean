/-
  Contracts of the reference of layer 13: Append.
  Conditions: the entries can be read.
-/
import Derived.Test.YtdladjgdhnkkcaaTrR
namespace Go.Proofs.Ytdladjgdhnkkcaa
open Go.RowKit
set_option linter.unusedVariables false
set_option linter.unusedSimpArgs false

theorem OwnE.setBelow {w : World} {base : Nat} {v : Value} {es : List En} (h : OwnE w base v es) {g i : Nat} (hg : g < base) (u : Value) : OwnE (w.setCell ⟨g, i, none⟩ u) base v es := ownsRow_setCell_below h (a := ⟨g, i, none⟩) hg u

theorem set_size (w : World) (g i : Nat) (u : Value) : (w.setCell ⟨g, i, none⟩ u).heap.size = w.heap.size := by simp [World.setCell]
theorem rd_set_new (w : World) (g : Nat) (u : Value) (x : Int) (s : ByteArray) : RdE ((w.setCell ⟨g, 2, none⟩ u).alloc (.cells #[.int .i64 x, .string s] 32)) (some ⟨w.heap.size, 0, none⟩) [(x, s)] := by
  have h := rdE_new (w.setCell ⟨g, 2, none⟩ u) [(x, s)] (by simp [maxLen]) _ rfl
  rw [set_size] at h
  exact h
theorem le_set_alloc {B : Nat} {w : World} (h : B ≤ w.heap.size) (g : Nat) (u : Value) (o : Obj) : B ≤ ((w.setCell ⟨g, 2, none⟩ u).alloc o).heap.size := by
  have := (bel_new (Below.refl (w.setCell ⟨g, 2, none⟩ u).heap.size _) o).size
  rw [set_size] at this
  omega

set_option maxRecDepth 20000 in
set_option maxHeartbeats 2000000 in
theorem rappend_calls (b bt et : Int) (s : ByteArray) (A : Option Addr) (cap : Nat) (es : List En) (w : World) (hR : RdE w A es) (hlen : es.length ≤ 2 ^ 47) (hcap : es.length ≤ cap) :
    Calls Try.prog 26 #[trV b bt A es.length cap, .agg #[.int .i64 et, .string s]] w fun e w' => (∃ v, e = .returned v ∧ ResT w.heap.size b bt (if Tr.chk b bt es then Tr.with_ b bt es es.length [(et, s)] else none) v w') ∧ Below w.heap.size w w' := by
  obtain ⟨o, ho⟩ : ∃ o, o = (if Tr.chk b bt es then Tr.with_ b bt es es.length [(et, s)] else none) := ⟨_, rfl⟩
  rw [← ho]
  have hck := Lib.hid (fun W hb => rcheck_calls b bt A cap es W (hR.bel hb) (by omega))
  have HR := Lib.hid hR
  have hS := Lib.hid (((SW.nil w).new 24 #[.int .i64 b, .int .i64 bt, .slice A es.length cap] w.heap.size rfl).new 32 #[.int .i64 et, .string s] (w.heap.size + 1) (by simp) |>.new 24 zT (w.heap.size + 1 + 1) (by simp))
  by_cases hc : Tr.chk b bt es = true
  · rw [if_pos hc] at ho
    have hr := Tr.chk_rim hc
    rw [hc] at hck
    have hel : es.length ≤ 4096 := hr.2.2.2.2.2.1
    obtain ⟨out, hout⟩ : ∃ out, out = es ++ [(et, s)] := ⟨_, rfl⟩
    have hol : out.length = es.length + 1 := by rw [hout]; simp
    have ho2 : o = if Tr.chk b bt out then some out else none := by rw [ho]; unfold Tr.with_; rw [List.take_length, hout]
    have HW := Lib.hid ho2
    have HOUT := Lib.hid hout
    have HOL := Lib.hid hol
    clear hc hR hr ho ho2 hout hol
    go_enter Try.func26, Try.ntmps26
    go_wp2_with fail
    refine (hck.out _ hS.out.1).mono ?_
    rintro e w1 ⟨rfl, hb1⟩
    have hs1 := Lib.hid (hS.out.bel hb1)
    have hg2 := (hs1.out.at_ 2 rfl).lt
    have hsz := hs1.out.1.size
    have c0 := (hs1.out.at_ 0 rfl).cells
    have cB := (((hs1.out.at_ 0 rfl).alloc (.cells #[.int .i64 b, .int .i64 bt, .slice A es.length cap] 24)).alloc (.cells #[] 32)).cells
    have hs1' := Lib.hid (hs1.out.new 24 #[.int .i64 b, .int .i64 bt, .slice A es.length cap] w1.heap.size rfl)
    have hL : OwnE ((w1.alloc (.cells #[.int .i64 b, .int .i64 bt, .slice A es.length cap] 24)).alloc (.cells #[] 32)) (w1.heap.size + 1) (.slice (some ⟨w1.heap.size + 1, 0, none⟩) 0 0) [] := by
      simpa using OwnE.lit (w1.alloc (.cells #[.int .i64 b, .int .i64 bt, .slice A es.length cap] 24)) (w1.heap.size + 1) (by simp) [] (by simp) #[] rfl
    have HLL := Lib.hid hL
    have n0 : w.heap.size ≠ w1.heap.size := by omega
    have n1 : w.heap.size + 1 ≠ w1.heap.size := by omega
    clear hb1 hS hck hL
    go_wp2_with (first
      | (at_builtin
         refine wpList_appE rfl (.tmp 12) (.tmp 14) rfl (w1.heap.size + 1) _ [] rfl HLL.out A es.length cap es rfl rfl ((HR.out.bel hs1.out.1).bel (bel_new (bel_new (Below.refl _ _) _) _)) (by simp; omega) (by simp) ?_
         intro v1 w2 ho1 hg1 _
         have hb2 := Lib.hid (OwnE.grown (w0 := w1.alloc (.cells #[.int .i64 b, .int .i64 bt, .slice A es.length cap] 24)) HLL.out ((Below.refl _ _).alloc (by simp) _) (by simp) hg1)
         rw [List.nil_append] at ho1
         obtain ⟨A1, cap1, rfl, hc1, hR1, _⟩ := ho1.form
         have HO1 := Lib.hid ho1
         have hs2 := Lib.hid (hs1'.out.bel (hb2.out.mono (by simp)))
         have c6 := (hs2.out.at_ 3 rfl).cells
         have f6 := (hs2.out.at_ 3 rfl).free
         have ce := (hs2.out.at_ 1 rfl).cells
         have HSZ2 : Hid (w1.heap.size + 1 ≤ w2.heap.size) := Lib.hid (by have := hb2.out.size; simpa using this)
         clear hg1 ho1)
      | (at_builtin
         refine wpList_appE rfl (.tmp 18) (.tmp 20) rfl (w1.heap.size + 1) (.slice A1 es.length cap1) es rfl ((HO1.out.setBelow (g := w1.heap.size) (i := 2) (by omega) (.slice A1 es.length cap1)).kept (bel_new (Below.refl _ _) _)) (some ⟨w2.heap.size, 0, none⟩) 1 1 [(et, s)] rfl rfl (rd_set_new w2 w1.heap.size (.slice A1 es.length cap1) et s) (by simp; omega) (le_set_alloc HSZ2.out _ _ _) ?_
         intro v2 w3 ho3 hg3 _
         have hb3 := Lib.hid (OwnE.grown (w0 := w2.setCell ⟨w1.heap.size, 2, none⟩ (.slice A1 es.length cap1)) ((HO1.out.setBelow (g := w1.heap.size) (i := 2) (by omega) (.slice A1 es.length cap1)).kept (bel_new (Below.refl _ _) _)) ((Below.refl _ _).alloc (by rw [set_size]; exact HSZ2.out) _) (le_set_alloc HSZ2.out _ _ _) hg3)
         rw [← HOUT.out] at ho3
         obtain ⟨A2, cap2, rfl, hc2, hR2, hO2⟩ := ho3.form
         have HT := Lib.hid (((hs2.out.at_ 3 rfl).set 2 (.slice A1 es.length cap1)).below hb3.out (by omega))
         have HRS := Lib.hid (((hs2.out.at_ 2 rfl).far (p := ⟨w1.heap.size, 2, none⟩) (by show w.heap.size + 1 + 1 ≠ w1.heap.size; omega) (.slice A1 es.length cap1)).below hb3.out (by omega))
         have hbw := Lib.hid ((bel_set hs2.out.1 (g := w1.heap.size) hsz 2 (.slice A1 es.length cap1)).trans (hb3.out.mono (by omega)))
         have c7 := HT.out.cells
         have f7 := HT.out.free
         simp at c7
         have HR2 := Lib.hid hR2
         have HO2 := Lib.hid hO2
         clear hg3 ho3 hR2 hO2 ce c6 f6 cB c0 hR1))
    have hb4 := Lib.hid (bel_set hbw.out (g := w1.heap.size) hsz 2 (.slice A2 out.length cap2))
    have HRS4 := Lib.hid (HRS.out.far (p := ⟨w1.heap.size, 2, none⟩) (by show w.heap.size + 1 + 1 ≠ w1.heap.size; omega) (.slice A2 out.length cap2))
    have HT4 := Lib.hid (HT.out.set 2 (.slice A2 out.length cap2))
    have hr4 := Lib.hid (HR2.out.far (g := w1.heap.size) (i := 2) (v := .slice A2 out.length cap2) (fun b off sp e => by have := (HO2.out b off sp e).1; omega))
    generalize w3.setCell ⟨w1.heap.size, 2, none⟩ (.slice A2 out.length cap2) = w4 at *
    have hk4 := Lib.hid (rcheck_calls b bt A2 cap2 out w4 hr4.out (by have := HOL.out; omega))
    clear c7 f7 HT HRS hb3 hb2 HO1 HLL hs2 HSZ2 HR2 hbw
    rcases hco : Tr.chk b bt out with _ | _
    · rw [hco] at hk4
      have ho0 : o = none := by rw [HW.out, hco]; rfl
      subst ho0
      clear hco
      refine hk4.out.mono ?_
      rintro e w5 ⟨rfl, hb5⟩
      have hw5 := Lib.hid (bel_tr hb4.out hb5)
      have hB := HRS4.out.bel hb5
      have c5 := hB.cells
      have f5 := hB.free
      clear hb5
      go_wp2_with fail
      refine bodyPost_ret (v := .tuple #[trV 0 0 none 0 0, .bool false]) (by simp [results, Try.results26, go_sem, c5]) rfl ⟨⟨_, rfl, rfl⟩, put3_bel hw5.out (by omega)⟩
    · rw [hco] at hk4
      have ho0 : o = some out := by rw [HW.out, hco]; rfl
      subst ho0
      clear hco
      refine hk4.out.mono ?_
      rintro e w5 ⟨rfl, hb5⟩
      have hw5 := Lib.hid (bel_tr hb4.out hb5)
      have hB := HRS4.out.bel hb5
      have c5 := hB.cells
      have f5 := hB.free
      have c6 := (HT4.out.bel hb5).cells
      simp at c6
      have hr5 := Lib.hid (hr4.out.bel hb5)
      have n6 : w1.heap.size ≠ w.heap.size + 1 + 1 := by omega
      clear hb5
      go_wp2_with fail
      refine bodyPost_ret (v := .tuple #[trV b bt A2 out.length cap2, .bool true]) (by simp [results, Try.results26, go_sem, c5]) rfl ⟨⟨_, rfl, ⟨A2, cap2, rfl, hc2, put3_rd hr5.out ?_, fun g off sp e => ?_⟩⟩, put3_bel hw5.out (by omega)⟩
      · intro g off sp e
        have := (HO2.out g off sp e).1
        omega
      · have := (HO2.out g off sp e).1
        omega
  · rw [if_neg hc] at ho
    simp only [Bool.not_eq_true] at hc
    rw [hc] at hck
    subst ho
    clear hc hR
    go_enter Try.func26, Try.ntmps26
    go_wp2_with fail
    refine (hck.out _ hS.out.1).mono ?_
    rintro e w1 ⟨rfl, hb1⟩
    have hs1 := Lib.hid (hS.out.bel hb1)
    have hB := (hs1.out.at_ 2 rfl)
    have c2 := hB.cells
    have f2 := hB.free
    clear hb1 hS
    go_wp2_with fail
    refine bodyPost_ret (v := .tuple #[trV 0 0 none 0 0, .bool false]) (by simp [results, Try.results26, go_sem, c2]) rfl ⟨⟨_, rfl, rfl⟩, put3_bel hs1.out.1 (by omega)⟩
end Go.Proofs.Ytdladjgdhnkkcaa
