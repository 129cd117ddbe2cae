/-
  QuorumMedian: the nodes that have reached what Reached tells win; those that have reached one more do not.
  No condition.
-/
import Derived.Test.YtdladjgdhnkkcaaQR
import Derived.Test.YtdladjgdhnkkcaaFrame
import Derived.Test.YtdladjgdhnkkcaaRows
import Derived.Test.YtdladjgdhnkkcaaQS
namespace Go.Proofs.Ytdladjgdhnkkcaa.lawQuorumMedian
open Go.RowKit Go.ChangeShapes Go.WideShapes Go.ChangeAt Go.Deep Go.Proofs.Ytdladjgdhnkkcaa
set_option linter.unusedVariables false
set_option linter.unusedSimpArgs false

set_option maxRecDepth 20000 in
set_option maxHeartbeats 8000000 in
theorem walk (A : Option Addr) (cap : Nat) (l : List Int) (B : Option Addr) (capB : Nat) (m : List (Int × Int)) (w : World)
    (hA : Hid (RdI w A l)) (hll : l.length ≤ cap) (hcl : cap ≤ 20000000000000) (gl : Hid (∀ k ∈ l, -9223372036854775808 ≤ k ∧ k ≤ 9223372036854775807))
    (hB : Hid (RdL layIt w B m)) (hlm : m.length ≤ capB) (hcm : capB ≤ 20000000000000) (gm : Hid (∀ x ∈ m, -9223372036854775808 ≤ x.2 ∧ x.2 ≤ 9223372036854775807)) :
    Calls Try.prog 11 #[.slice A l.length cap, .slice B m.length capB] w fun e w' => e = .returned (.bool true) ∧ Below w.heap.size w w' := by
  have HRC := Lib.hid (fun (W : World) (h1 : Hid (RdI W A l)) (h2 : Hid (RdL layIt W B m)) => reached_calls A B cap capB l m W h1 hll (by omega) h2 (by omega))
  have HCK := Lib.hid (fun (W : World) (h1 : Hid (RdI W A l)) => qcheck_calls A cap l W h1 hll (by omega))
  have HW := Lib.hid (fun (W : World) (D : Option Addr) (c : Nat) (t : List Int) (h1 : Hid (RdI W A l)) (h2 : Hid (RdI W D t)) (h3 : t.length ≤ c) (h4 : c ≤ maxLen) => wins_calls A D cap c l t W h1 hll (by omega) h2 (Nat.le_trans h3 (Nat.le_trans h4 (by decide))))
  have HAT := Lib.hid (fun (W : World) (x : Int) (h2 : Hid (RdL layIt W B m)) => at_calls B capB m x W h2 (by omega))
  have HN0 := Lib.hid (fun h => Qm.reached_none (l := l) (m := m) h)
  have HM1 := Lib.hid (fun h => Qm.med_now (l := l) (m := m) h)
  have HM2 := Lib.hid (fun h => Qm.med_more (l := l) (m := m) h)
  have HCA := Lib.hid (fun h => (Qm.chk_asc (l := l) h).2.2)
  obtain ⟨r1, r2⟩ := Qm.reached_range (l := l) (m := m) gm.out
  generalize Qm.reached l m = n at *
  generalize Qm.at_ m = F at *
  clear gl gm
  go_enter Try.func11, Try.ntmps11
  go_wp2_with fail
  refine (quorum_awake _).mono ?_
  rintro e w1 ⟨rfl, hb1⟩
  have HB1 := Lib.hid hb1
  clear hb1
  go_wp2_with fail
  refine (HRC.out w1 (Lib.hid (hA.out.bel HB1.out)) (Lib.hid (hB.out.bel HB1.out))).mono ?_
  rintro e w2 ⟨rfl, hb2⟩
  have HB2 := Lib.hid (bel_tr HB1.out hb2)
  have HA2 := Lib.hid (hA.out.bel HB2.out)
  have HE2 := Lib.hid (hB.out.bel HB2.out)
  clear hb2 HB1 hA hB HRC
  go_wp2_with fail
  refine (HCK.out w2 HA2).mono ?_
  rintro e w' ⟨rfl, rfl⟩
  by_cases hq : Qm.chk l = true
  rotate_left
  · have hq' : Qm.chk l = false := by simpa using hq
    obtain rfl : n = 0 := HN0.out hq'
    rw [hq']
    clear hq hq'
    go_wp2_with fail
    go_ret
    exact ⟨rfl, HB2.out⟩
  have hl7 := HCA.out hq
  have HW1 := Lib.hid (HM1.out hq)
  have HW2 := Lib.hid (HM2.out hq)
  rw [hq]
  clear hq HN0 HM1 HM2 HCA HCK
  by_cases hbig : 4611686018427387904 ≤ n
  · go_wp2_with fail
    go_ret
    exact ⟨rfl, HB2.out⟩
  go_wp2_with fail
  go_loopg [6, 7, 8, 9] l.length (fun g v6 v7 v8 v9 W => Below w2.heap.size w2 W ∧ ∃ k : Nat, v8 = .int .i64 k ∧ Hid (k + g = l.length ∧ Two (layI .i64) 3 W w2.heap.size v6 v7 (Qm.upto F (l.take k) n) (Qm.upto F (l.take k) (n + 1))))
  case atStart => exact ⟨Below.refl _ _, 0, rfl, Lib.hid ⟨by omega, OwnL.nil _ _, OwnL.nil _ _, fun b hb => (nomatch hb)⟩⟩
  case round =>
    obtain ⟨hb, k, rfl, HI⟩ := hrel
    obtain ⟨hkg, htwo⟩ := HI.out
    have hB := Lib.hid hb
    by_cases hlt : k < l.length
    · have hl : (k : Int) < (l.length : Int) := by omega
      have hg : 0 < gk := by omega
      obtain ⟨b, off, rfl, h1, c0⟩ := HA2.out.int k hlt
      have c1 := (hb.cell (p := ⟨b, off + k, none⟩) h1).trans c0
      have hst1 := Qm.upto_step F l n k hlt
      have hst2 := Qm.upto_step F l (n + 1) k hlt
      have hx1 : (Qm.upto F (l.take k) n).length ≤ 7 := by
        have := Qm.upto_len F (l.take k) n
        rw [List.length_take] at this
        omega
      have hx2 : (Qm.upto F (l.take k) (n + 1)).length ≤ 7 := by
        have := Qm.upto_len F (l.take k) (n + 1)
        rw [List.length_take] at this
        omega
      generalize Qm.upto F (l.take k) n = X at *
      generalize Qm.upto F (l.take k) (n + 1) = Y at *
      generalize l.getD k default = x at *
      have HX1 := Lib.hid hx1
      have HX2 := Lib.hid hx2
      have HT := Lib.hid htwo
      have HTN := Lib.hid (htwo.kept (bel_new (Below.refl _ _) (.cells #[.int .i64 x] 3)))
      have HKG := Lib.hid hkg
      have HS1 := Lib.hid hst1
      have HS2 := Lib.hid hst2
      have HC0 := Lib.hid c0
      have HH1 := Lib.hid h1
      clear hkg htwo HI hst1 hst2 hx1 hx2 hb c0
      go_wp2_with fail
      refine (HAT.out wr x (Lib.hid (HE2.out.bel hB.out))).mono ?_
      rintro e w' ⟨rfl, rfl⟩
      generalize F x = z at *
      by_cases hz1 : n ≤ z
      rotate_left
      · have hz2 : ¬ n + 1 ≤ z := by omega
        have e1 := HS1.out
        have e2 := HS2.out
        rw [if_neg hz1, List.append_nil] at e1
        rw [if_neg hz2, List.append_nil] at e2
        have E1 := Lib.hid e1
        have E2 := Lib.hid e2
        clear e1 e2 HS1 HS2
        go_wp2_with fail
        go_roundg (gk - 1)
        case rel => exact ⟨hB.out, k + 1, by go_num, Lib.hid ⟨by have := HKG.out; omega, by rw [E1.out, E2.out]; exact HT.out⟩⟩
        case measure => omega
      by_cases hz2 : n + 1 ≤ z
      · have e1 := HS1.out
        have e2 := HS2.out
        rw [if_pos hz1] at e1
        rw [if_pos hz2] at e2
        have E1 := Lib.hid e1
        have E2 := Lib.hid e2
        clear e1 e2 HS1 HS2
        go_wp2_with (first
          | (at_builtin
             refine wpList_appAt 45 _ 8 Try.underlying45 infoI rfl rfl (.tmp 37) (.tmp 42) rfl w2.heap.size _ X rfl HTN.out.1 ⟨wr.heap.size, 0, none⟩ 1 1 [x] rfl rfl (rdI_one wr x) (by have := HX1.out; simp [maxLen]; omega) (by have := HX1.out; simp; omega) (bel_new hB.out _).size ?_
             intro u6 w6 ho6 hg6 ha6
             have hb6 := Lib.hid (OwnL.grown (w0 := w2) HTN.out.1 (bel_new hB.out _) (bel_new hB.out _).size hg6)
             have HT6 := Lib.hid ((HTN.out.left ho6 hg6 ha6).kept (bel_new (Below.refl _ _) (.cells #[.int .i64 x] 3)))
             have c6 := (hb6.out.cell (p := ⟨b, off + k, none⟩) HH1.out).trans HC0.out
             clear hg6 ha6 ho6)
          | (at_builtin
             refine wpList_appAt 45 _ 8 Try.underlying45 infoI rfl rfl (.tmp 48) (.tmp 53) rfl w2.heap.size _ Y rfl HT6.out.2.1 ⟨w6.heap.size, 0, none⟩ 1 1 [x] rfl rfl (rdI_one w6 x) (by have := HX2.out; simp [maxLen]; omega) (by have := HX2.out; simp; omega) (bel_new hb6.out _).size ?_
             intro u7 w7 ho7 hg7 ha7
             have hb7 := Lib.hid (OwnL.grown (w0 := w2) HT6.out.2.1 (bel_new hb6.out _) (bel_new hb6.out _).size hg7)
             have HT7 := Lib.hid (HT6.out.right ho7 hg7 ha7)
             clear hg7 ha7 ho7))
        go_roundg (gk - 1)
        case rel => exact ⟨hb7.out, k + 1, by go_num, Lib.hid ⟨by have := HKG.out; omega, by rw [E1.out, E2.out]; exact HT7.out⟩⟩
        case measure => omega
      · have e1 := HS1.out
        have e2 := HS2.out
        rw [if_pos hz1] at e1
        rw [if_neg hz2, List.append_nil] at e2
        have E1 := Lib.hid e1
        have E2 := Lib.hid e2
        clear e1 e2 HS1 HS2
        go_wp2_with (first
          | (at_builtin
             refine wpList_appAt 45 _ 8 Try.underlying45 infoI rfl rfl (.tmp 37) (.tmp 42) rfl w2.heap.size _ X rfl HTN.out.1 ⟨wr.heap.size, 0, none⟩ 1 1 [x] rfl rfl (rdI_one wr x) (by have := HX1.out; simp [maxLen]; omega) (by have := HX1.out; simp; omega) (bel_new hB.out _).size ?_
             intro u6 w6 ho6 hg6 ha6
             have hb6 := Lib.hid (OwnL.grown (w0 := w2) HTN.out.1 (bel_new hB.out _) (bel_new hB.out _).size hg6)
             have HT6 := Lib.hid (HTN.out.left ho6 hg6 ha6)
             clear hg6 ha6 ho6))
        go_roundg (gk - 1)
        case rel => exact ⟨hb6.out, k + 1, by go_num, Lib.hid ⟨by have := HKG.out; omega, by rw [E1.out, E2.out]; exact HT6.out⟩⟩
        case measure => omega
    · have hl : ¬ (k : Int) < (l.length : Int) := by omega
      rw [show k = l.length from by omega, List.take_length] at htwo
      obtain ⟨D1, c1, rfl, m1, m2, hD1, _⟩ := htwo.1.form
      obtain ⟨D2, c2, rfl, m3, m4, hD2, _⟩ := htwo.2.1.form
      have HAr := Lib.hid (HA2.out.bel hb)
      have HBr := Lib.hid (bel_tr HB2.out hb)
      have k1 := HW.out wr D1 c1 (Qm.upto F l n) HAr (Lib.hid hD1) m1 m2
      have k2 := HW.out wr D2 c2 (Qm.upto F l (n + 1)) HAr (Lib.hid hD2) m3 m4
      rw [HW1.out] at k1
      rw [HW2.out] at k2
      have K1 := Lib.hid k1
      have K2 := Lib.hid k2
      clear hlt hkg htwo HI hb hD1 hD2 m1 m2 m3 m4 k1 k2 hB HW1 HW2
      go_wp2_with fail
      refine K1.out.mono ?_
      rintro e w' ⟨rfl, rfl⟩
      go_wp2_with fail
      refine K2.out.mono ?_
      rintro e w' ⟨rfl, rfl⟩
      go_wp2_with fail
      go_ret
      exact ⟨rfl, HBr.out⟩

set_option maxRecDepth 100000 in
theorem walks {H : Type} (enc : TypeId × Value → H) : Walks enc Try.prog 11 Try.f11 := by
  intro W base args ds ps hval hA hwt
  rw [Try.params11] at hA hval hwt
  obtain ⟨v0, vs0, d0, ds0, p0, q0, hargs, rfl, rfl, h0, r0⟩ := trodAll_cons hA
  obtain ⟨v1, vs1, d1, ds1, p1, q1, rfl, rfl, rfl, h1, r1⟩ := trodAll_cons r0
  obtain ⟨rfl, rfl, rfl⟩ := trodAll_nil r1
  obtain rfl : args = #[v0, v1] := by cases args; simp_all
  obtain ⟨A0, l0, cap0, rfl, a0, b0, c0, g0⟩ := ints_arg (hval 0 45 v0 rfl rfl) h0 (weightsEach_at (i := 0) hwt rfl rfl)
  obtain ⟨A1, l1, cap1, rfl, a1, b1, c1, g1⟩ := items_arg (hval 1 58 v1 rfl rfl) h1 (weightsEach_at (i := 1) hwt rfl rfl)
  exact walk A0 cap0 l0 A1 cap1 l1 W (Lib.hid c0) a0 b0 (Lib.hid g0) (Lib.hid c1) a1 b1 (Lib.hid g1)

set_option maxRecDepth 100000 in
theorem lifted (os : Os) (started : os.Started) (H : Type) (enc : TypeId × Value → H) :
    ReturnsInHanded {} Try.checked os 11 .any (Rows.quorumMedianSpec.pre6 enc Try.prog Try.f11 Rows.quorumMedianRow.domain false) (Rows.quorumMedianSpec.post enc Try.prog Try.f11 false true false false) :=
  frame_lifted (C := Try.checked) own started (by kernel_rfl) Try.func11
    (ChangeSpec.witness6 (enc := enc) (C := Try.checked) false ⟨#[], #[.slice none 0 0, .slice none 0 0], []⟩ 8 (by kernel_rfl) (by kernel_rfl) (by kernel_rfl) (by kernel_rfl)) laidOut (by kernel_rfl) rfl (by rfl) Try.underlying4
    (fun ds h => match ds, h with | [d0, d1], _ => ⟨rfl, rfl, rfl⟩) (walks enc)

theorem over : Rows.quorumMedianRow.holds Try.pinned (OpenSpec.ofChange Rows.quorumMedianSpec) :=
  OpenClaim.holds_of_wide 11 Try.f11 rfl rfl rfl rfl rfl rfl rfl ⟨rfl, rfl, rfl, rfl, rfl⟩ rfl rfl rfl rfl rfl (by kernel_rfl) Try.func11 (by kernel_rfl)
    (of_decide_eq_true (by kernel_rfl)) (by unfold Func.isWrapper; first | (rw [if_pos (by decide +kernel)]; kernel_rfl) | (rw [if_neg (by decide +kernel)]; exact ⟨rfl, rfl⟩))
    (fun os started H enc _ => lifted os started H enc)

/-- the statement -/
theorem proved : Rows.QuorumMedianSaid := over
end Go.Proofs.Ytdladjgdhnkkcaa.lawQuorumMedian
