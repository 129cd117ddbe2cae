/-
  The law's 'two' and 'awake' of layer 13.
  No condition.
-/
import Derived.Test.YtdladjgdhnkkcaaTr9
namespace Go.Proofs.Ytdladjgdhnkkcaa
open Go.RowKit
set_option linter.unusedVariables false
set_option linter.unusedSimpArgs false

def sA : ByteArray := ⟨#[97]⟩
def sB : ByteArray := ⟨#[98]⟩
def sX : ByteArray := ⟨#[120]⟩
def twoE : List En := [(1, ⟨#[97]⟩), (3, ⟨#[98]⟩)]

theorem rdE_new (w : World) (es : List En) (hm : es.length ≤ maxLen) (cs : Array Value) (hc : cs = (cellsE es).toArray) : RdE (w.alloc (.cells cs 32)) (some ⟨w.heap.size, 0, none⟩) es := by
  obtain ⟨A, cap, e, _, h, _⟩ := (OwnE.lit w w.heap.size (Nat.le_refl _) es hm cs hc).form
  injection e with e
  subst e
  exact h
theorem two_calls (w : World) : Calls Try.prog 59 #[] w fun e w' => (∃ A, e = .returned (trV 2 1 A twoE.length 2) ∧ RdE w' A twoE) ∧ Below w.heap.size w w' := by
  go_enter Try.func59, Try.ntmps59
  go_wp2_with fail
  refine bodyPost_ret (v := trV 2 1 (some ⟨w.heap.size + 1, 0, none⟩) 2 2) (by simp [results, Try.results59, go_sem]) rfl ⟨⟨_, rfl, ?_⟩, bel_new (bel_new (Below.refl _ _) _) _⟩
  have := rdE_new (w.alloc (.cells #[.int .i64 2, .int .i64 1, .slice (some ⟨w.heap.size + 1, 0, none⟩) 2 2] 24)) twoE (by simp [twoE, maxLen]) _ rfl
  simpa [cellsE, twoE] using this

theorem putW3 : Tr.put 2 1 twoE 3 1 [(2, ⟨#[120]⟩)] 3 = some [(1, ⟨#[97]⟩), (2, ⟨#[120]⟩)] := by rfl
theorem putW4 : Tr.put 2 1 twoE 3 1 [(2, ⟨#[120]⟩)] 4 = none := by rfl
theorem lastW : Tr.lastN 2 1 twoE = 4 ∧ Tr.lastT 2 1 twoE = 3 := ⟨rfl, rfl⟩
theorem hasW : Tr.has 2 1 twoE 3 = true ∧ Tr.trm 2 1 twoE 3 = 1 := ⟨rfl, rfl⟩
theorem newW : Tr.newer 2 1 twoE 2 4 = true := rfl

set_option maxRecDepth 20000 in
set_option maxHeartbeats 4000000 in
theorem trail_awake (w : World) : Calls Try.prog 17 #[] w fun e w' => e = .returned (.bool true) ∧ Below w.heap.size w w' := by
  have t2 : twoE.length = 2 := rfl
  have hl := Lib.hid (fun (A : Option Addr) (W : World) (hR : RdE W A twoE) => last2_calls 2 1 A 2 twoE W hR (by decide))
  rw [lastW.1, lastW.2, t2] at hl
  have hp := Lib.hid (fun (A B : Option Addr) (W : World) (hR : RdE W A twoE) (hM : RdE W B [(2, ⟨#[120]⟩)]) => put_calls 2 1 3 1 3 A 2 twoE B 1 [(2, ⟨#[120]⟩)] W hR hM (by decide) (by decide) (by simp) (by simp) (by decide))
  rw [putW3, t2] at hp
  have hq := Lib.hid (fun (A B : Option Addr) (W : World) (hR : RdE W A twoE) (hM : RdE W B [(2, ⟨#[120]⟩)]) => put_calls 2 1 3 1 4 A 2 twoE B 1 [(2, ⟨#[120]⟩)] W hR hM (by decide) (by decide) (by simp) (by simp) (by decide))
  rw [putW4, t2] at hq
  have hc := Lib.hid (fun (A : Option Addr) (W : World) (hR : RdE W A twoE) => cut_calls 2 1 3 A 2 twoE W hR (by decide) (by decide))
  rw [hasW.1, hasW.2, t2] at hc
  simp only [if_true] at hc
  have hn := Lib.hid (fun (A : Option Addr) (W : World) (hR : RdE W A twoE) => newer_calls 2 1 2 4 A 2 twoE W hR (by decide))
  rw [newW, t2] at hn
  have htw := Lib.hid two_calls
  rw [t2] at htw
  go_enter Try.func17, Try.ntmps17
  go_wp2_with fail
  refine (htw.out _).mono ?_
  rintro e w1 ⟨⟨A1, rfl, r1⟩, hb1⟩
  go_wp2_with fail
  refine (hl.out A1 _ r1).mono ?_
  rintro e w2 ⟨rfl, hb2⟩
  have hw2 := Lib.hid (bel_tr hb1 hb2)
  clear hb1 hb2 r1
  go_wp2_with fail
  refine (htw.out _).mono ?_
  rintro e w3 ⟨⟨A3, rfl, r3⟩, hb3⟩
  have hw3 := Lib.hid (bel_tr hw2.out hb3)
  clear hb3
  go_wp2_with fail
  refine (hp.out A3 _ _ (r3.bel (bel_new (Below.refl _ _) _)) (rdE_new w3 [(2, ⟨#[120]⟩)] (by simp [maxLen]) _ rfl)).mono ?_
  rintro e w4 ⟨⟨v, rfl, A4, cap4, rfl, q1, q2, q3⟩, hb4⟩
  have hw4 := Lib.hid (bel_tr (bel_new hw3.out _) hb4)
  clear r3 hb4 q1 q3
  simp only [List.length_cons, List.length_nil, Nat.zero_add, Nat.reduceAdd]
  go_wp2_with fail
  have hB4 := Lib.hid (Blk.new w4 24 #[.int .i64 2, .int .i64 1, .slice A4 2 cap4])
  have hR4 := Lib.hid (q2.bel (bel_new (Below.refl _ _) (.cells #[.int .i64 2, .int .i64 1, .slice A4 2 cap4] 24)))
  have hw5 := Lib.hid (bel_new hw4.out (.cells #[.int .i64 2, .int .i64 1, .slice A4 2 cap4] 24))
  clear q2
  generalize w4.alloc (.cells #[.int .i64 2, .int .i64 1, .slice A4 2 cap4] 24) = w5 at *
  generalize w4.heap.size = g4 at *
  refine (htw.out _).mono ?_
  rintro e w6 ⟨⟨A6, rfl, r6⟩, hb6⟩
  have hw6 := Lib.hid (bel_tr hw5.out hb6)
  have hB6 := Lib.hid (hB4.out.bel hb6)
  have hR6 := Lib.hid (hR4.out.bel hb6)
  clear hb6 hB4 hR4
  go_wp2_with fail
  refine (hq.out A6 _ _ (r6.bel (bel_new (Below.refl _ _) _)) (rdE_new w6 [(2, ⟨#[120]⟩)] (by simp [maxLen]) _ rfl)).mono ?_
  rintro e w7 ⟨⟨v, rfl, rfl⟩, hb7⟩
  have hw7 := Lib.hid (bel_tr (bel_new hw6.out _) hb7)
  have hB7 := Lib.hid ((hB6.out.alloc _).bel hb7)
  have hR7 := Lib.hid ((hR6.out.bel (bel_new (Below.refl _ _) _)).bel hb7)
  clear r6 hb7 hB6 hR6
  go_wp2_with fail
  have hw8 := Lib.hid (bel_new hw7.out (.cells #[.int .i64 0, .int .i64 0, .slice none 0 0] 24))
  have hB8 := Lib.hid (hB7.out.alloc (.cells #[.int .i64 0, .int .i64 0, .slice none 0 0] 24))
  have hR8 := Lib.hid (hR7.out.bel (bel_new (Below.refl _ _) (.cells #[.int .i64 0, .int .i64 0, .slice none 0 0] 24)))
  clear hB7 hR7
  generalize w7.alloc (.cells #[.int .i64 0, .int .i64 0, .slice none 0 0] 24) = w8 at *
  refine (htw.out _).mono ?_
  rintro e w9 ⟨⟨A9, rfl, r9⟩, hb9⟩
  have hw9 := Lib.hid (bel_tr hw8.out hb9)
  have hB9 := Lib.hid (hB8.out.bel hb9)
  have hR9 := Lib.hid (hR8.out.bel hb9)
  clear hb9 hB8 hR8
  go_wp2_with fail
  refine (hc.out A9 _ r9).mono ?_
  rintro e w10 ⟨⟨v, rfl, A10, cap10, rfl, q1, q2, q3⟩, hb10⟩
  have hw10 := Lib.hid (bel_tr hw9.out hb10)
  have hB10 := Lib.hid (hB9.out.bel hb10)
  have hR10 := Lib.hid (hR9.out.bel hb10)
  clear hb10 hB9 hR9 r9 q1 q2 q3
  rw [show (List.drop ((3 : Int) - 2).toNat twoE).length = 1 from rfl]
  have hlt := hB10.out.lt
  have n1 : g4 ≠ w10.heap.size := by omega
  have ca := hB10.out.cells
  obtain ⟨bl, off, rfl, hbl, d1, d2⟩ := hR10.out 1 (by simp)
  have n2 : bl ≠ w10.heap.size := by omega
  have d1' : w10.cell? ⟨bl, off + 2, none⟩ = some (.int .i64 2) := d1
  have d2' : w10.cell? ⟨bl, off + 2 + 1, none⟩ = some (.string ⟨#[120]⟩) := d2
  have d3' : w10.cell? ⟨bl, off + 3, none⟩ = some (.string ⟨#[120]⟩) := d2
  have hw11 := Lib.hid (bel_new hw10.out (.cells #[.int .i64 3, .int .i64 1, .slice A10 1 cap10] 24))
  clear d1 d2 hR10 hB10
  go_wp2_with fail
  refine (htw.out _).mono ?_
  rintro e w12 ⟨⟨A12, rfl, r12⟩, hb12⟩
  have hw12 := Lib.hid (bel_tr hw11.out hb12)
  clear hb12 ca d1' d2' d3'
  go_wp2_with fail
  refine (hn.out A12 _ r12).mono ?_
  rintro e w13 ⟨rfl, hb13⟩
  have hw13 := Lib.hid (bel_tr hw12.out hb13)
  clear hb13
  go_wp2_with fail
  go_ret
  exact ⟨rfl, hw13.out⟩
end Go.Proofs.Ytdladjgdhnkkcaa
