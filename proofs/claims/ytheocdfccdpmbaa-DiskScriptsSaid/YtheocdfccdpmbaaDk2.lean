/-
  Contracts: what is read of a disk.
  Conditions: stated lemma by lemma.
-/
import Derived.Test.YtheocdfccdpmbaaDk1
import Derived.Test.YtheocdfccdpmbaaDkS
import Derived.Maps.RangeWalk
import Derived.Lib.SliceRun
namespace Go.Proofs.Ytheocdfccdpmbaa
open Go.RowKit Go.Maps
set_option linter.unusedVariables false
set_option linter.unusedSimpArgs false
set_option maxHeartbeats 4000000

namespace Dk
def thereE (F : List ByteArray) (s : ByteArray) : Int := if s ∈ F then 0 else 80
end Dk
theorem infoB : ((Try.prog.info? 5).map (fun i => (i.zero, i.size, i.bytes))) = some (some (.int .u8 0), 1, 1) := by kernel_rfl
theorem infoN : ((Try.prog.info? 9).map (fun i => (i.zero, i.size, i.bytes))) = some (some (.string ⟨#[]⟩), 1, 16) := by kernel_rfl
section
variable {w0 w : World} {g : Nat} {F : List ByteArray} {fl : ByteArray → List UInt8} {ws : List (ByteArray × Nat)} {tot : Int} {l : List Thing}
theorem there_calls (H : Hid (Sp w0 (dskT g F fl ws tot :: l) w)) (s : ByteArray) (hs : s.size ≤ maxLen) :
    Calls Try.prog 49 #[.pointer (some ⟨g, 0, none⟩), .string s] w fun e w' => e = .returned (.int .i64 (Dk.thereE F s)) ∧ w = w' := by
  obtain ⟨x, hx, hd⟩ := H.out.opend
  have c0 : ∀ i, w.cell? ⟨g, i, none⟩ = (#[.map (some x.mb), x.wv, .int .i64 tot] : Array Value)[i]? := (DkS.of hd).blk.cells
  obtain ⟨v, hv1, -, -⟩ := look_file (DkS.of hd).map hx hs w rfl
  generalize x.mb = mb at *
  generalize x.wv = wv at *
  clear hd hx
  obtain ⟨er, her⟩ : ∃ er, er = Dk.thereE F s := ⟨_, rfl⟩
  rw [← her]
  by_cases c : s ∈ F
  · rw [decide_eq_true c] at hv1
    have HE : Hid (er = 0) := Lib.hid (by rw [her]; unfold Dk.thereE; rw [if_pos c])
    clear her c
    go_enter Try.func49, Try.ntmps49
    go_wp2_with fail
    go_ret
    rw [HE.out]
    exact ⟨rfl, rfl⟩
  · rw [decide_eq_false c] at hv1
    have HE : Hid (er = 80) := Lib.hid (by rw [her]; unfold Dk.thereE; rw [if_neg c])
    clear her c
    go_enter Try.func49, Try.ntmps49
    go_wp2_with fail
    go_ret
    rw [HE.out]
    exact ⟨rfl, rfl⟩
theorem waiting_calls (H : Hid (Sp w0 (dskT g F fl ws tot :: l) w)) :
    Calls Try.prog 29 #[.pointer (some ⟨g, 0, none⟩)] w fun e w' => e = .returned (.int .i64 ws.length) ∧ w = w' := by
  obtain ⟨⟨mb, D, sv, wv⟩, hx, hd⟩ := H.out.opend
  have c0 : ∀ i, w.cell? ⟨g, i, none⟩ = (#[.map (some mb), wv, .int .i64 tot] : Array Value)[i]? := (DkS.of hd).blk.cells
  obtain ⟨A, c, e, -, -, -, -⟩ := (DkS.of hd).waits.form
  simp only at e
  subst e
  clear hd hx
  go_enter Try.func29, Try.ntmps29
  go_wp2_with fail
  go_ret
  exact ⟨rfl, rfl⟩
end
theorem clone8_calls {v : Value} {xs : List UInt8} {w : World} {b0 : Nat} (HO : Hid (OwnL layB 5 w b0 v xs)) (hl : xs.length ≤ 1048576) :
    Calls Try.prog 50 #[v] w fun e w' => ∃ v', e = .returned v' ∧ OwnL layB 5 w' w.heap.size v' xs ∧ Below w.heap.size w w' := by
  have q22 : ∀ (w : World) (a : Option Addr) (n c n' c' : Nat), (binOp .eql 47 (.slice a n c) (.slice none n' c')).run Try.prog w = .ok (.bool a.isNone) w := fun w a n c n' c' => Lib.run_eql_slice_nil w _ _ a n c n' c' Try.underlying47
  obtain ⟨A, c, rfl, -, -, hrd, hA⟩ := HO.out.form
  have HLL := Lib.hid hl
  clear hl
  rcases A with _ | ⟨b, off, sp⟩
  · have hx : xs = [] := by
      rcases Nat.eq_zero_or_pos xs.length with h0 | h0
      · exact List.eq_nil_of_length_eq_zero h0
      · obtain ⟨_, _, e, _⟩ := hrd 0 h0
        cases e
    subst hx
    clear hrd hA
    go_enter Try.func50, Try.ntmps50
    go_wp2_with fail
    go_ret
    exact ⟨_, rfl, OwnL.nil _ _, Below.refl _ _⟩
  · have HR1 := Lib.hid (hrd.bel (bel_new (Below.refl w.heap.size w) (.cells #[] 5)))
    have HB1 := Lib.hid (bel_new (Below.refl w.heap.size w) (.cells #[] 5))
    have HO1 := Lib.hid (OwnL.lit (e := 5) w w.heap.size (Nat.le_refl _) ([] : List UInt8) (L := layB) (by simp [maxLen]) #[] rfl)
    clear hrd hA
    go_enter Try.func50, Try.ntmps50
    go_wp2_with (at_builtin; refine wpList_appL (L := layB) 47 _ 1 Try.underlying47 infoB rfl rfl (.tmp 5) (.tmp 6) rfl w.heap.size _ [] rfl HO1.out _ xs.length c xs rfl rfl HR1.out (by have := HLL.out; simp [maxLen]; omega) (by have := HLL.out; simp; omega) HB1.out.size ?_; intro v2 w2 ho2 hg2; have HN2 := Lib.hid (ho2); have HB2 := Lib.hid (HO1.out.grown HB1.out HB1.out.size hg2); clear ho2 hg2)
    go_ret
    exact ⟨_, rfl, by have := HN2.out; rwa [List.nil_append] at this, HB2.out⟩
section
variable {w0 w : World} {g : Nat} {F : List ByteArray} {fl : ByteArray → List UInt8} {ws : List (ByteArray × Nat)} {tot : Int} {l : List Thing}
theorem read_calls (H : Hid (Sp w0 (dskT g F fl ws tot :: l) w)) (s : ByteArray) (hs : s.size ≤ maxLen) (hfl : Hid (∀ n ∈ F, (fl n).length ≤ 1048576)) :
    Calls Try.prog 27 #[.pointer (some ⟨g, 0, none⟩), .string s] w fun e w' =>
      ∃ v, e = .returned (.tuple #[v, .int .i64 (Dk.thereE F s)]) ∧ OwnL layB 5 w' w.heap.size v (if s ∈ F then fl s else []) ∧ Below w.heap.size w w' := by
  have HT := Lib.hid (there_calls H s hs)
  obtain ⟨x, hx, hd⟩ := H.out.opend
  have c0 : ∀ i, w.cell? ⟨g, i, none⟩ = (#[.map (some x.mb), x.wv, .int .i64 tot] : Array Value)[i]? := (DkS.of hd).blk.cells
  obtain ⟨v, -, hv2, hv3⟩ := look_file (DkS.of hd).map hx hs w rfl
  by_cases c : s ∈ F
  · rw [if_pos c] at hv3
    subst hv3
    have HF := Lib.hid ((DkS.of hd).file c)
    have HFL := hfl.out s c
    have HE : Hid (Dk.thereE F s = 0) := Lib.hid (by unfold Dk.thereE; rw [if_pos c])
    have HT2 := HT
    generalize Dk.thereE F s = er at *
    rw [if_pos c]
    generalize x.sv s = v at *
    generalize x.mb = mb at *
    generalize x.wv = wv at *
    generalize fl s = xs at *
    clear hd hx c hfl HT
    obtain rfl := HE.out
    go_enter Try.func27, Try.ntmps27
    go_wp2_with fail
    refine HT2.out.mono ?_
    rintro e w1 ⟨rfl, rfl⟩
    go_wp2_with fail
    refine (clone8_calls HF HFL).mono ?_
    rintro e w2 ⟨v2, rfl, ho2, hb2⟩
    have HO2 := Lib.hid ho2
    have HB2 := Lib.hid hb2
    clear ho2 hb2
    obtain ⟨A2, c2, rfl, -, -, -, -⟩ := HO2.out.form
    go_wp2_with fail
    go_ret2
    exact ⟨_, rfl, HO2.out, HB2.out⟩
  · have HE : Hid (Dk.thereE F s = 80) := Lib.hid (by unfold Dk.thereE; rw [if_neg c])
    rw [if_neg c]
    generalize Dk.thereE F s = er at *
    clear hd hx c hfl hv2 hv3
    obtain rfl := HE.out
    go_enter Try.func27, Try.ntmps27
    go_wp2_with fail
    refine HT.out.mono ?_
    rintro e w1 ⟨rfl, rfl⟩
    go_wp2_with fail
    go_ret2
    exact ⟨_, rfl, OwnL.nil _ _, Below.refl _ _⟩
end
end Go.Proofs.Ytheocdfccdpmbaa
