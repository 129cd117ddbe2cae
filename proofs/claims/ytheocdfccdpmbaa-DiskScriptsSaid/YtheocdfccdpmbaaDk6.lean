/-
  Contracts: a file's writes wait no more; a sync; a removal.
  Conditions: stated lemma by lemma.
-/
import Derived.Test.YtheocdfccdpmbaaDk5
namespace Go.Proofs.Ytheocdfccdpmbaa
open Go.RowKit Go.Maps
set_option linter.unusedVariables false
set_option linter.unusedSimpArgs false
set_option maxHeartbeats 8000000

section
variable {w0 w : World} {g : Nat} {F : List ByteArray} {fl : ByteArray → List UInt8} {ws : List (ByteArray × Nat)} {tot : Int} {l : List Thing}
set_option maxRecDepth 20000 in
theorem forget_calls (H : Hid (Sp w0 (dskT g F fl ws tot :: l) w)) (s : ByteArray) (hws : ws.length ≤ 1000000) :
    Calls Try.prog 52 #[.pointer (some ⟨g, 0, none⟩), .string s] w fun e w' => e = .returned (.tuple #[]) ∧ Sp w0 (dskT g F fl (Dk.forget s ws) tot :: l) w' := by
  obtain ⟨⟨mb, D, sv, wv⟩, hx, hd⟩ := H.out.opend
  have HX := Lib.hid hx
  have HB1 := Lib.hid (bel_new (Below.refl w.heap.size w) (.cells #[.string s] 9))
  have HK1 := Lib.hid (Blk.new w 9 #[.string s])
  have HD := Lib.hid ((DkS.of hd).keep HB1.out)
  have HNE : Hid (∀ b, wv.ownBlock = some b → w.heap.size ≠ b) := Lib.hid (fun b e => by have := (DkS.of hd).waits.lt2 b e; omega)
  simp only at HD HX
  have HWS := Lib.hid hws
  clear hx hd hws
  go_enter Try.func52, Try.ntmps52
  go_upto_region 1 with (fail)
  have HLT := Lib.hid HK1.out.lt
  have HC := Lib.hid (HK1.out.cells 0)
  generalize w.heap.size = bx at *
  generalize w.alloc (.cells #[.string s] 9) = w1 at *
  have c1 : ∀ i, w1.cell? ⟨g, i, none⟩ = (#[.map (some mb), wv, .int .i64 tot] : Array Value)[i]? := HD.out.blk.cells
  go_wp2_with fail
  refine (delf_calls wv ws bx s w1 (Lib.hid (HD.out.waits.low (Nat.zero_le _))) (by have := HWS.out; omega) HLT.out (Lib.hid HC.out) HNE).mono ?_
  rintro e w2 ⟨v2, rfl, ho2, ht2, h32⟩
  obtain ⟨A2, cp2, rfl, -, -, -, -⟩ := ho2.form
  have HD2 := Lib.hid (HD.out.turnw ho2 ht2 (.inl h32))
  clear ho2 ht2 h32 c1
  have c2 : ∀ i, w2.cell? ⟨g, i, none⟩ = (#[.map (some mb), wv, .int .i64 tot] : Array Value)[i]? := HD2.out.blk.cells
  have f2 : ∀ i, w2.frozen? ⟨g, i, none⟩ = false := HD2.out.blk.free
  go_wp2_with fail
  go_end0
  exact ⟨rfl, DkS.to (x := ⟨mb, D, sv, _⟩) HX.out (HD2.out.setw _)⟩
theorem sync_calls (H : Hid (Sp w0 (dskT g F fl ws tot :: l) w)) (s : ByteArray) (hs : s.size ≤ maxLen) (hws : ws.length ≤ 1000000) :
    Calls Try.prog 34 #[.pointer (some ⟨g, 0, none⟩), .string s] w fun e w' => e = .returned (.int .i64 (Dk.thereE F s)) ∧ Sp w0 (dskT g F fl (if s ∈ F then Dk.forget s ws else ws) tot :: l) w' := by
  have HT := Lib.hid (there_calls H s hs)
  have HF := Lib.hid (forget_calls H s hws)
  clear hs hws
  by_cases c : s ∈ F
  · have HE : Hid (Dk.thereE F s = 0) := Lib.hid (by unfold Dk.thereE; rw [if_pos c])
    rw [if_pos c]
    generalize Dk.thereE F s = er at *
    obtain rfl := HE.out
    clear c
    go_enter Try.func34, Try.ntmps34
    go_wp2_with fail
    refine HT.out.mono ?_
    rintro e w1 ⟨rfl, rfl⟩
    go_wp2_with fail
    refine HF.out.mono ?_
    rintro e w2 ⟨rfl, h2⟩
    have H2 := Lib.hid h2
    clear h2
    go_wp2_with fail
    go_ret
    exact ⟨rfl, H2.out⟩
  · have HE : Hid (Dk.thereE F s = 80) := Lib.hid (by unfold Dk.thereE; rw [if_neg c])
    rw [if_neg c]
    generalize Dk.thereE F s = er at *
    obtain rfl := HE.out
    clear c
    go_enter Try.func34, Try.ntmps34
    go_wp2_with fail
    refine HT.out.mono ?_
    rintro e w1 ⟨rfl, rfl⟩
    go_wp2_with fail
    go_ret
    exact ⟨rfl, H.out⟩
/-- what a Remove leaves -/
def RemTo (w0 : World) (g : Nat) (F : List ByteArray) (fl : ByteArray → List UInt8) (ws : List (ByteArray × Nat)) (tot : Int) (l : List Thing) (s : ByteArray) (w' : World) : Prop :=
  if s ∈ F then Sp w0 (dskT g (outF F s) fl (Dk.forget s ws) (tot - (fl s).length) :: l) w' else Sp w0 (dskT g F fl ws tot :: l) w'
set_option maxRecDepth 20000 in
theorem remove_calls (H : Hid (Sp w0 (dskT g F fl ws tot :: l) w)) (s : ByteArray) (hs : s.size ≤ maxLen) (hws : ws.length ≤ 1000000) (ht0 : 0 ≤ tot) (ht1 : tot ≤ 1048576) (hfl : Hid (∀ n, (fl n).length ≤ 1048576)) :
    Calls Try.prog 48 #[.pointer (some ⟨g, 0, none⟩), .string s] w fun e w' => e = .returned (.int .i64 (Dk.thereE F s)) ∧ RemTo w0 g F fl ws tot l s w' := by
  have HT := Lib.hid (there_calls H s hs)
  have HS := Lib.hid hs
  have HWS := Lib.hid hws
  clear hs hws
  by_cases c : s ∈ F
  · have HE : Hid (Dk.thereE F s = 0) := Lib.hid (by unfold Dk.thereE; rw [if_pos c])
    obtain ⟨⟨mb, D, sv, wv⟩, hx, hd⟩ := H.out.opend
    have c0 : ∀ i, w.cell? ⟨g, i, none⟩ = (#[.map (some mb), wv, .int .i64 tot] : Array Value)[i]? := (DkS.of hd).blk.cells
    have f0 : ∀ i, w.frozen? ⟨g, i, none⟩ = false := (DkS.of hd).blk.free
    obtain ⟨v, -, hv2, hv3⟩ := look_file (DkS.of hd).map hx HS.out w.drew rfl
    rw [if_pos c] at hv3
    obtain ⟨Af, cf, hvf, -, -, -, -⟩ := ((DkS.of hd).file c).form
    rw [← hv3] at hvf
    simp only at hv2 hvf
    subst hvf
    have HX := Lib.hid hx
    have HD := Lib.hid (DkS.of hd)
    simp only at HX HD
    have HCC := Lib.hid c
    have hfs := hfl.out s
    have hwr : IntKind.i64.wrap (tot - ((fl s).length : Int)) = tot - ((fl s).length : Int) := IntWalk.i64_in _ (by omega)
    generalize Dk.thereE F s = er at *
    obtain rfl := HE.out
    clear c hx hd hv3 hfs
    go_enter Try.func48, Try.ntmps48
    go_wp2_with fail
    refine HT.out.mono ?_
    rintro e w1 ⟨rfl, rfl⟩
    go_upto_region 3 with (fail)
    go_region
    have HD3 := Lib.hid ((HD.out.sett (tot - ((fl s).length : Int))).keep (bel_drew (Below.refl _ _)))
    clear HD c0 f0 hv2
    generalize (w.setCell ⟨g, 2, none⟩ (.int .i64 (tot - ((fl s).length : Int)))).drew = w3 at *
    have c3 : ∀ i, w3.cell? ⟨g, i, none⟩ = (#[.map (some mb), wv, .int .i64 (tot - ((fl s).length : Int))] : Array Value)[i]? := HD3.out.blk.cells
    go_wp2_with (at_delete; refine wpList_delete_own _ rfl _ _ 82 9 rfl 47 kLawS Try.underlying82 RH mb _ D rfl HD3.out.map _ (kS s) rfl (Go.WideMaps.keyOf_string_mk Try.underlying9 HS.out) ?_; intro w4 hown4 hturn4; have HD4 := Lib.hid ((HD3.out.setm hturn4.grown hown4).gone HCC.out HX.out.nd); have HX4 := Lib.hid (HX.out.del (HD3.out.map.tidy kLawS) s); clear hown4 hturn4)
    have H4 : Hid (Sp w0 (dskT g (outF F s) fl ws (tot - ((fl s).length : Int)) :: l) w4) := Lib.hid (DkS.to (x := ⟨mb, D.del (kS s), sv, wv⟩) HX4.out HD4.out)
    clear c3
    refine (forget_calls H4 s HWS.out).mono ?_
    rintro e w5 ⟨rfl, h5⟩
    have H5 := Lib.hid h5
    clear h5
    go_wp2_with fail
    go_ret
    refine ⟨rfl, ?_⟩
    unfold RemTo
    rw [if_pos HCC.out]
    exact H5.out
  · have HE : Hid (Dk.thereE F s = 80) := Lib.hid (by unfold Dk.thereE; rw [if_neg c])
    have HCC := Lib.hid c
    generalize Dk.thereE F s = er at *
    obtain rfl := HE.out
    clear c
    go_enter Try.func48, Try.ntmps48
    go_wp2_with fail
    refine HT.out.mono ?_
    rintro e w1 ⟨rfl, rfl⟩
    go_wp2_with fail
    go_ret
    refine ⟨rfl, ?_⟩
    unfold RemTo
    rw [if_neg HCC.out]
    exact H.out
end
end Go.Proofs.Ytheocdfccdpmbaa
