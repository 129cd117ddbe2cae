/-
  The statement TrailTells: whether any log is right, and what is told of it.
  No condition.
-/
import Derived.Test.YtdladjgdhnkkcaaTrS
import Derived.Test.YtdladjgdhnkkcaaTrB
import Derived.Deep.RegionHeld3
namespace Go.Proofs.Ytdladjgdhnkkcaa.lawTrailTells
open Go.ChangeShapes Go.WideShapes Go.ChangeAt Go.RowKit
set_option linter.unusedVariables false
set_option linter.unusedSimpArgs false

theorem c3_of {w W : World} {b bt : Int} {v : Value} (h : SW w [(w.heap.size, 24, #[.int .i64 b, .int .i64 bt, v])] W) :
    W.cell? ⟨w.heap.size, 0, none⟩ = some (.int .i64 b) ∧ W.cell? ⟨w.heap.size, 1, none⟩ = some (.int .i64 bt) ∧ W.cell? ⟨w.heap.size, 2, none⟩ = some v := by
  have h := (h.at_ 0 rfl).cells
  exact ⟨h 0, h 1, h 2⟩

set_option maxRecDepth 20000 in
set_option maxHeartbeats 16000000 in
theorem walk (b bt n term most : Int) (A : Option Addr) (cap : Nat) (es : List En) (w : World) (hR : RdE w A es) (hlen : es.length ≤ 2 ^ 47) (hcap : es.length ≤ cap) :
    Calls Try.prog 7 #[trV b bt A es.length cap, .int .i64 n, .int .i64 term, .int .i64 most] w fun e w' => e = .returned (.bool true) ∧ Below w.heap.size w w' := by
  have hl1 := Lib.hid (fun W hb => last2_calls b bt A cap es W (hR.bel hb) (by omega))
  have hl2 := Lib.hid (fun W hb => rlast2_calls b bt A cap es W (hR.bel hb) (by omega))
  have ht1 := Lib.hid (fun W hb => term2_calls b bt n A cap es W (hR.bel hb) (by omega))
  have ht2 := Lib.hid (fun W hb => rterm2_calls b bt n A cap es W (hR.bel hb) (by omega))
  have hc1 := Lib.hid (fun W hb => check_calls b bt A cap es W (hR.bel hb) (by omega))
  have hc2 := Lib.hid (fun W hb => rcheck_calls b bt A cap es W (hR.bel hb) (by omega))
  have hn1 := Lib.hid (fun W hb => newer_calls b bt n term A cap es W (hR.bel hb) (by omega))
  have hn2 := Lib.hid (fun W hb => rnewer_calls b bt n term A cap es W (hR.bel hb) (by omega))
  have hs1 := Lib.hid (fun W hb => slice_calls b bt n most A cap es W (hR.bel hb) hlen hcap)
  have hs2 := Lib.hid (fun W hb => rslice_calls b bt n most A cap es W (hR.bel hb) hlen hcap)
  have hol : (Tr.cutFrom b bt es n most).length ≤ 9223372036854775807 := by
    unfold Tr.cutFrom
    split
    · simp only [List.length_take, List.length_drop]; omega
    · simp
  obtain ⟨x1, e1⟩ : ∃ x, x = Tr.lastN b bt es := ⟨_, rfl⟩
  obtain ⟨x2, e2⟩ : ∃ x, x = Tr.lastT b bt es := ⟨_, rfl⟩
  obtain ⟨x3, e3⟩ : ∃ x, x = (if Tr.has b bt es n then Tr.trm b bt es n else 0) := ⟨_, rfl⟩
  obtain ⟨x4, e4⟩ : ∃ x, x = Tr.has b bt es n := ⟨_, rfl⟩
  obtain ⟨x5, e5⟩ : ∃ x, x = Tr.chk b bt es := ⟨_, rfl⟩
  obtain ⟨x6, e6⟩ : ∃ x, x = Tr.newer b bt es n term := ⟨_, rfl⟩
  obtain ⟨o, e7⟩ : ∃ x, x = Tr.cutFrom b bt es n most := ⟨_, rfl⟩
  rw [← e1, ← e2] at hl1 hl2
  rw [← e3, ← e4] at ht1 ht2
  rw [← e5] at hc1 hc2
  rw [← e6] at hn1 hn2
  rw [← e7] at hs1 hs2 hol
  have hS := Lib.hid ((SW.nil w).new 24 #[.int .i64 b, .int .i64 bt, .slice A es.length cap] w.heap.size rfl)
  clear e1 e2 e3 e4 e5 e6 e7 hR
  go_enter Try.func7, Try.ntmps7
  go_wp2_with fail
  refine (trail_awake _).mono ?_
  rintro e w0 ⟨rfl, hb0⟩
  have hw0 := Lib.hid (show SW w [(w.heap.size, 24, #[.int .i64 b, .int .i64 bt, .slice A es.length cap])] _ from hS.out.bel hb0)
  have c0 := (hw0.out.at_ 0 rfl).cells
  clear hb0 hS
  go_wp2_with fail
  refine (hl1.out _ hw0.out.1).mono ?_
  rintro e w1 ⟨rfl, hb1⟩
  have hw1 := Lib.hid (hw0.out.bel hb1)
  have c1 := (hw1.out.at_ 0 rfl).cells
  clear hb1 hw0 c0 hl1
  go_wp2_with fail
  refine (hl2.out _ hw1.out.1).mono ?_
  rintro e w2 ⟨rfl, hb2⟩
  have hw2 := Lib.hid (hw1.out.bel hb2)
  have c2 := (hw2.out.at_ 0 rfl).cells
  clear hb2 hw1 c1 hl2
  go_wp2_with fail
  refine (ht1.out _ hw2.out.1).mono ?_
  rintro e w3 ⟨rfl, hb3⟩
  have hw3 := Lib.hid (hw2.out.bel hb3)
  have c3 := (hw3.out.at_ 0 rfl).cells
  clear hb3 hw2 c2 ht1
  go_wp2_with fail
  refine (ht2.out _ hw3.out.1).mono ?_
  rintro e w4 ⟨rfl, hb4⟩
  have hw4 := Lib.hid (hw3.out.bel hb4)
  have c4 := (hw4.out.at_ 0 rfl).cells
  clear hb4 hw3 c3 ht2
  have f4 := c3_of hw4.out
  obtain ⟨f0, f1, f2⟩ := f4
  have y1 : (x1 == x1) = true := by simp
  have y2 : (x2 == x2) = true := by simp
  have y3 : (x3 == x3) = true := by simp
  clear c4
  go_wp2_with fail
  go_region_held3 (fun W => W.cell? ⟨w.heap.size, 0, none⟩ = some (.int .i64 b) ∧ W.cell? ⟨w.heap.size, 1, none⟩ = some (.int .i64 bt) ∧ W.cell? ⟨w.heap.size, 2, none⟩ = some (.slice A es.length cap)) (go_keep) (first
    | (go_at_call 19; refine (hc1.out _ hw4.out.drew.1).mono ?_; rintro e w5 ⟨rfl, hb5⟩; have hw5 := Lib.hid (hw4.out.drew.bel hb5); obtain ⟨f0, f1, f2⟩ := c3_of hw5.out; clear hb5)
    | (go_at_call 31; refine (hc2.out _ hw5.out.1).mono ?_; rintro e w6 ⟨rfl, hb6⟩; have hw6 := Lib.hid (hw5.out.bel hb6); obtain ⟨f0, f1, f2⟩ := c3_of hw6.out; clear hb6)
    | (go_at_call 23; refine (hn1.out _ hw6.out.1).mono ?_; rintro e w7 ⟨rfl, hb7⟩; have hw7 := Lib.hid (hw6.out.bel hb7); obtain ⟨f0, f1, f2⟩ := c3_of hw7.out; clear hb7)
    | (go_at_call 32; refine (hn2.out _ hw7.out.1).mono ?_; rintro e w8 ⟨rfl, hb8⟩; have hw8 := Lib.hid (hw7.out.bel hb8); obtain ⟨f0, f1, f2⟩ := c3_of hw8.out; clear hb8)
    | (go_at_call 34; refine (hs1.out _ hw8.out.1).mono ?_; rintro e w9 ⟨⟨A1, k1, rfl, q1⟩, hb9⟩; have hw9 := Lib.hid (hw8.out.bel hb9); obtain ⟨f0, f1, f2⟩ := c3_of hw9.out; clear hb9)
    | (go_at_call 35; refine (hs2.out _ hw9.out.1).mono ?_; rintro e w10 ⟨⟨A2, k2, rfl, q2⟩, hb10⟩; have q3 := q1.bel hb10; have hw10 := Lib.hid (hw9.out.bel hb10); obtain ⟨f0, f1, f2⟩ := c3_of hw10.out; clear hb10)
    | (go_at_call 33; refine (entries_calls A1 A2 k1 k2 o o _ q3 q2 hol hol).mono ?_; rintro e w11 ⟨rfl, hb11⟩; have hw11 := Lib.hid (hw10.out.bel hb11); obtain ⟨f0, f1, f2⟩ := c3_of hw11.out; clear hb11))
  all_goals
    go_wp2_with fail
    go_ret
    exact ⟨ret_bool (by simp), hw11.out.1⟩

set_option maxRecDepth 100000 in
theorem walks {H : Type} (enc : TypeId × Value → H) : Walks enc Try.prog 7 Try.f7 := by
  intro W base args ds ps hval hA hwt
  rw [Try.params7] at hA hval hwt
  obtain ⟨v0, vs0, d0, ds0, p0, q0, hargs, rfl, rfl, h0, r0⟩ := trodAll_cons hA
  obtain ⟨v1, vs1, d1, ds1, p1, q1, rfl, rfl, rfl, h1, r1⟩ := trodAll_cons r0
  obtain ⟨v2, vs2, d2, ds2, p2, q2, rfl, rfl, rfl, h2, r2⟩ := trodAll_cons r1
  obtain ⟨v3, vs3, d3, ds3, p3, q3, rfl, rfl, rfl, h3, r3⟩ := trodAll_cons r2
  obtain ⟨rfl, rfl, rfl⟩ := trodAll_nil r3
  obtain rfl : args = #[v0, v1, v2, v3] := by cases args; simp_all
  obtain ⟨b, bt, A, es, cap, rfl, _, _, c1, c2, hR⟩ := trail_arg (hval 0 24 v0 rfl rfl) h0 (weightsEach_at (i := 0) hwt rfl rfl)
  obtain ⟨n, rfl, rfl, rfl, _⟩ := open_int Try.underlying2 (hval 1 2 v1 rfl rfl) h1
  obtain ⟨term, rfl, rfl, rfl, _⟩ := open_int Try.underlying2 (hval 2 2 v2 rfl rfl) h2
  obtain ⟨most, rfl, rfl, rfl, _⟩ := open_int Try.underlying3 (hval 3 3 v3 rfl rfl) h3
  exact walk b bt n term most A cap es W hR (by omega) c1

set_option maxRecDepth 100000 in
theorem lifted (os : Os) (started : os.Started) (H : Type) (enc : TypeId × Value → H) :
    ReturnsInHanded {} Try.checked os 7 .any (Rows.trailTellsSpec.pre6 enc Try.prog Try.f7 Rows.trailTellsRow.domain false) (Rows.trailTellsSpec.post enc Try.prog Try.f7 false true false false) :=
  frame_lifted (C := Try.checked) own started (by kernel_rfl) Try.func7
    (ChangeSpec.witness6 (enc := enc) (C := Try.checked) false ⟨#[], #[.agg #[.int .i64 0, .int .i64 0, .slice none 0 0], .int .i64 0, .int .i64 0, .int .i64 0], []⟩ 8 (by kernel_rfl) (by kernel_rfl) (by kernel_rfl) (by kernel_rfl)) laidOut (by kernel_rfl) rfl (by rfl) Try.underlying4
    (fun ds h => match ds, h with | [d0, d1, d2, d3], _ => ⟨rfl, rfl, rfl⟩) (walks enc)

theorem over : Rows.trailTellsRow.holds Try.pinned (OpenSpec.ofChange Rows.trailTellsSpec) :=
  OpenClaim.holds_of_wide 7 Try.f7 rfl rfl rfl rfl rfl rfl rfl ⟨rfl, rfl, rfl, rfl, rfl⟩ rfl rfl rfl rfl rfl (by kernel_rfl) Try.func7 (by kernel_rfl)
    (of_decide_eq_true (by kernel_rfl)) (by unfold Func.isWrapper; first | (rw [if_pos (by decide +kernel)]; kernel_rfl) | (rw [if_neg (by decide +kernel)]; exact ⟨rfl, rfl⟩))
    (fun os started H enc _ => lifted os started H enc)

/-- the statement -/
theorem proved : Rows.TrailTellsSaid := over
end Go.Proofs.Ytdladjgdhnkkcaa.lawTrailTells
