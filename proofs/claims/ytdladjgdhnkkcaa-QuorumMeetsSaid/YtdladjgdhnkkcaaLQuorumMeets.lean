/-
  QuorumMeets: two sets that win over one configuration, or over neighbouring ones, have a node of it in common.
  No condition.
-/
import Derived.Test.YtdladjgdhnkkcaaQR
import Derived.Test.YtdladjgdhnkkcaaFrame
import Derived.Test.YtdladjgdhnkkcaaRows
namespace Go.Proofs.Ytdladjgdhnkkcaa.lawQuorumMeets
open Go.RowKit Go.ChangeShapes Go.WideShapes Go.ChangeAt Go.Deep Go.Proofs.Ytdladjgdhnkkcaa
set_option linter.unusedVariables false
set_option linter.unusedSimpArgs false

set_option maxRecDepth 20000 in
set_option maxHeartbeats 8000000 in
theorem walk (A : Option Addr) (cap : Nat) (l : List Int) (B : Option Addr) (capB : Nat) (a : List Int) (C : Option Addr) (capC : Nat) (b : List Int) (add remove : Int) (w : World)
    (hA : Hid (RdI w A l)) (hll : l.length ≤ cap) (hcl : cap ≤ 20000000000000) (gl : Hid (∀ k ∈ l, -9223372036854775808 ≤ k ∧ k ≤ 9223372036854775807))
    (hB : Hid (RdI w B a)) (hla : a.length ≤ capB) (hca : capB ≤ 20000000000000) (ga : Hid (∀ k ∈ a, -9223372036854775808 ≤ k ∧ k ≤ 9223372036854775807))
    (hC : Hid (RdI w C b)) (hlb : b.length ≤ capC) (hcb : capC ≤ 20000000000000) (gb : Hid (∀ k ∈ b, -9223372036854775808 ≤ k ∧ k ≤ 9223372036854775807))
    (n1 : -9223372036854775808 ≤ add) (n2 : add ≤ 9223372036854775807) (n3 : -9223372036854775808 ≤ remove) (n4 : remove ≤ 9223372036854775807) :
    Calls Try.prog 10 #[.slice A l.length cap, .slice B a.length capB, .slice C b.length capC, .int .i64 add, .int .i64 remove] w fun e w' => e = .returned (.bool true) ∧ Below w.heap.size w w' := by
  have HM1 := Lib.hid (fun h1 h2 => Qm.meets_one (l := l) (a := a) (b := b) h1 h2)
  have HM2 := Lib.hid (fun h0 x hx h1 h2 => Qm.meets_next (l := l) (a := a) (b := b) (x := x) (add := add) (remove := remove) h0 hx h1 h2)
  have HW1 := Lib.hid (fun (W : World) (h1 : Hid (RdI W A l)) (h2 : Hid (RdI W B a)) => wins_calls A B cap capB l a W h1 hll (by omega) h2 (by omega))
  have HW2 := Lib.hid (fun (W : World) (h1 : Hid (RdI W A l)) (h2 : Hid (RdI W C b)) => wins_calls A C cap capC l b W h1 hll (by omega) h2 (by omega))
  have HSH := Lib.hid (fun (W : World) (h1 : Hid (RdI W A l)) (h2 : Hid (RdI W B a)) (h3 : Hid (RdI W C b)) => shared_calls A B C cap capB capC l a b W h1 (by omega) h2 (by omega) h3 (by omega))
  have HN := Lib.hid (fun (W : World) (h : Hid (RdI W A l)) => next_calls A cap l add remove W h hll (by omega))
  have HWX := Lib.hid (fun (W : World) (D : Option Addr) (c : Nat) (x : List Int) (h1 : Hid (RdI W D x)) (h2 : Hid (RdI W C b)) (h3 : x.length ≤ c) (h4 : c ≤ maxLen) => wins_calls D C c capC x b W h1 h3 (Nat.le_trans h4 (by decide)) h2 (by omega))
  rw [show (l.any fun c => decide (c ∈ a) && decide (c ∈ b)) = Qm.any2 l a b from rfl] at HSH
  generalize Qm.any2 l a b = sh at *
  generalize Qm.wins l a = x1 at *
  generalize Qm.wins l b = x2 at *
  generalize Qm.nxt l add remove = o at *
  clear gl ga gb
  by_cases ha : add = 0
  · have HZ := Lib.hid (show (0 : Int) = 0 ∨ remove = 0 from .inl rfl)
    subst ha
    cases x1
    · go_enter Try.func10, Try.ntmps10
      go_wp2_with fail
      refine (quorum_awake _).mono ?_
      rintro e w1 ⟨rfl, hb1⟩
      have HB1 := Lib.hid hb1
      have HA1 := Lib.hid (hA.out.bel hb1)
      have HE1 := Lib.hid (hB.out.bel hb1)
      have HC1 := Lib.hid (hC.out.bel hb1)
      clear hb1
      go_wp2_with fail
      refine (HW1.out _ HA1 HE1).mono ?_
      rintro e w' ⟨rfl, rfl⟩
      go_wp2_with fail
      refine (HN.out _ HA1).mono ?_
      rintro e w2 ⟨⟨v2, rfl, hv2⟩, hb2⟩
      have HB2 := Lib.hid (bel_tr HB1.out hb2)
      have HA2 := Lib.hid (HA1.out.bel hb2)
      have HE2 := Lib.hid (HE1.out.bel hb2)
      have HC2 := Lib.hid (HC1.out.bel hb2)
      clear hb2
      rcases o with _ | x
      · unfold ResI at hv2
        subst hv2
        go_wp2_with fail
        go_ret
        exact ⟨rfl, HB2.out⟩
      obtain ⟨u2, rfl, ho2⟩ := hv2
      obtain ⟨D, c, rfl, m1, m2, hD, _⟩ := ho2.form
      have HX := Lib.hid (HWX.out _ D c x (Lib.hid hD) HC2 m1 m2)

      generalize Qm.wins x b = y at *
      clear ho2 hD m1 m2
      go_wp2_with fail
      refine (HW1.out _ HA2 HE2).mono ?_
      rintro e w' ⟨rfl, rfl⟩
      go_wp2_with fail
      go_ret
      exact ⟨rfl, HB2.out⟩
    cases x2
    · go_enter Try.func10, Try.ntmps10
      go_wp2_with fail
      refine (quorum_awake _).mono ?_
      rintro e w1 ⟨rfl, hb1⟩
      have HB1 := Lib.hid hb1
      have HA1 := Lib.hid (hA.out.bel hb1)
      have HE1 := Lib.hid (hB.out.bel hb1)
      have HC1 := Lib.hid (hC.out.bel hb1)
      clear hb1
      go_wp2_with fail
      refine (HW1.out _ HA1 HE1).mono ?_
      rintro e w' ⟨rfl, rfl⟩
      go_wp2_with fail
      refine (HW2.out _ HA1 HC1).mono ?_
      rintro e w' ⟨rfl, rfl⟩
      go_wp2_with fail
      refine (HN.out _ HA1).mono ?_
      rintro e w2 ⟨⟨v2, rfl, hv2⟩, hb2⟩
      have HB2 := Lib.hid (bel_tr HB1.out hb2)
      have HA2 := Lib.hid (HA1.out.bel hb2)
      have HE2 := Lib.hid (HE1.out.bel hb2)
      have HC2 := Lib.hid (HC1.out.bel hb2)
      clear hb2
      rcases o with _ | x
      · unfold ResI at hv2
        subst hv2
        go_wp2_with fail
        go_ret
        exact ⟨rfl, HB2.out⟩
      obtain ⟨u2, rfl, ho2⟩ := hv2
      obtain ⟨D, c, rfl, m1, m2, hD, _⟩ := ho2.form
      have HX := Lib.hid (HWX.out _ D c x (Lib.hid hD) HC2 m1 m2)
      have HSX := Lib.hid (fun h2 => HM2.out HZ.out x rfl (by first | rfl | trivial) h2)
      generalize Qm.wins x b = y at *
      clear ho2 hD m1 m2
      go_wp2_with fail
      refine (HW1.out _ HA2 HE2).mono ?_
      rintro e w' ⟨rfl, rfl⟩
      go_wp2_with fail
      refine HX.out.mono ?_
      rintro e w' ⟨rfl, rfl⟩
      cases y
      · go_wp2_with fail
        go_ret
        exact ⟨rfl, HB2.out⟩
      obtain rfl : sh = true := HSX.out rfl
      go_wp2_with fail
      refine (HSH.out _ HA2 HE2 HC2).mono ?_
      rintro e w' ⟨rfl, rfl⟩
      go_wp2_with fail
      go_ret
      exact ⟨rfl, HB2.out⟩
    obtain rfl : sh = true := HM1.out rfl rfl
    go_enter Try.func10, Try.ntmps10
    go_wp2_with fail
    refine (quorum_awake _).mono ?_
    rintro e w1 ⟨rfl, hb1⟩
    have HB1 := Lib.hid hb1
    have HA1 := Lib.hid (hA.out.bel hb1)
    have HE1 := Lib.hid (hB.out.bel hb1)
    have HC1 := Lib.hid (hC.out.bel hb1)
    clear hb1
    go_wp2_with fail
    refine (HW1.out _ HA1 HE1).mono ?_
    rintro e w' ⟨rfl, rfl⟩
    go_wp2_with fail
    refine (HW2.out _ HA1 HC1).mono ?_
    rintro e w' ⟨rfl, rfl⟩
    go_wp2_with fail
    refine (HSH.out _ HA1 HE1 HC1).mono ?_
    rintro e w' ⟨rfl, rfl⟩
    go_wp2_with fail
    refine (HN.out _ HA1).mono ?_
    rintro e w2 ⟨⟨v2, rfl, hv2⟩, hb2⟩
    have HB2 := Lib.hid (bel_tr HB1.out hb2)
    have HA2 := Lib.hid (HA1.out.bel hb2)
    have HE2 := Lib.hid (HE1.out.bel hb2)
    have HC2 := Lib.hid (HC1.out.bel hb2)
    clear hb2
    rcases o with _ | x
    · unfold ResI at hv2
      subst hv2
      go_wp2_with fail
      go_ret
      exact ⟨rfl, HB2.out⟩
    obtain ⟨u2, rfl, ho2⟩ := hv2
    obtain ⟨D, c, rfl, m1, m2, hD, _⟩ := ho2.form
    have HX := Lib.hid (HWX.out _ D c x (Lib.hid hD) HC2 m1 m2)

    generalize Qm.wins x b = y at *
    clear ho2 hD m1 m2
    go_wp2_with fail
    refine (HW1.out _ HA2 HE2).mono ?_
    rintro e w' ⟨rfl, rfl⟩
    go_wp2_with fail
    refine HX.out.mono ?_
    rintro e w' ⟨rfl, rfl⟩
    cases y
    · go_wp2_with fail
      go_ret
      exact ⟨rfl, HB2.out⟩

    go_wp2_with fail
    refine (HSH.out _ HA2 HE2 HC2).mono ?_
    rintro e w' ⟨rfl, rfl⟩
    go_wp2_with fail
    go_ret
    exact ⟨rfl, HB2.out⟩
  by_cases hr : remove = 0
  · have HZ := Lib.hid (show add = 0 ∨ (0 : Int) = 0 from .inr rfl)
    have hai : (add != 0) = true := by rw [bne_iff_ne]; exact ha
    subst hr
    cases x1
    · go_enter Try.func10, Try.ntmps10
      go_wp2_with fail
      refine (quorum_awake _).mono ?_
      rintro e w1 ⟨rfl, hb1⟩
      have HB1 := Lib.hid hb1
      have HA1 := Lib.hid (hA.out.bel hb1)
      have HE1 := Lib.hid (hB.out.bel hb1)
      have HC1 := Lib.hid (hC.out.bel hb1)
      clear hb1
      go_wp2_with fail
      refine (HW1.out _ HA1 HE1).mono ?_
      rintro e w' ⟨rfl, rfl⟩
      go_wp2_with fail
      refine (HN.out _ HA1).mono ?_
      rintro e w2 ⟨⟨v2, rfl, hv2⟩, hb2⟩
      have HB2 := Lib.hid (bel_tr HB1.out hb2)
      have HA2 := Lib.hid (HA1.out.bel hb2)
      have HE2 := Lib.hid (HE1.out.bel hb2)
      have HC2 := Lib.hid (HC1.out.bel hb2)
      clear hb2
      rcases o with _ | x
      · unfold ResI at hv2
        subst hv2
        go_wp2_with fail
        go_ret
        exact ⟨rfl, HB2.out⟩
      obtain ⟨u2, rfl, ho2⟩ := hv2
      obtain ⟨D, c, rfl, m1, m2, hD, _⟩ := ho2.form
      have HX := Lib.hid (HWX.out _ D c x (Lib.hid hD) HC2 m1 m2)

      generalize Qm.wins x b = y at *
      clear ho2 hD m1 m2
      go_wp2_with fail
      refine (HW1.out _ HA2 HE2).mono ?_
      rintro e w' ⟨rfl, rfl⟩
      go_wp2_with fail
      go_ret
      exact ⟨rfl, HB2.out⟩
    cases x2
    · go_enter Try.func10, Try.ntmps10
      go_wp2_with fail
      refine (quorum_awake _).mono ?_
      rintro e w1 ⟨rfl, hb1⟩
      have HB1 := Lib.hid hb1
      have HA1 := Lib.hid (hA.out.bel hb1)
      have HE1 := Lib.hid (hB.out.bel hb1)
      have HC1 := Lib.hid (hC.out.bel hb1)
      clear hb1
      go_wp2_with fail
      refine (HW1.out _ HA1 HE1).mono ?_
      rintro e w' ⟨rfl, rfl⟩
      go_wp2_with fail
      refine (HW2.out _ HA1 HC1).mono ?_
      rintro e w' ⟨rfl, rfl⟩
      go_wp2_with fail
      refine (HN.out _ HA1).mono ?_
      rintro e w2 ⟨⟨v2, rfl, hv2⟩, hb2⟩
      have HB2 := Lib.hid (bel_tr HB1.out hb2)
      have HA2 := Lib.hid (HA1.out.bel hb2)
      have HE2 := Lib.hid (HE1.out.bel hb2)
      have HC2 := Lib.hid (HC1.out.bel hb2)
      clear hb2
      rcases o with _ | x
      · unfold ResI at hv2
        subst hv2
        go_wp2_with fail
        go_ret
        exact ⟨rfl, HB2.out⟩
      obtain ⟨u2, rfl, ho2⟩ := hv2
      obtain ⟨D, c, rfl, m1, m2, hD, _⟩ := ho2.form
      have HX := Lib.hid (HWX.out _ D c x (Lib.hid hD) HC2 m1 m2)
      have HSX := Lib.hid (fun h2 => HM2.out HZ.out x rfl (by first | rfl | trivial) h2)
      generalize Qm.wins x b = y at *
      clear ho2 hD m1 m2
      go_wp2_with fail
      refine (HW1.out _ HA2 HE2).mono ?_
      rintro e w' ⟨rfl, rfl⟩
      go_wp2_with fail
      refine HX.out.mono ?_
      rintro e w' ⟨rfl, rfl⟩
      cases y
      · go_wp2_with fail
        go_ret
        exact ⟨rfl, HB2.out⟩
      obtain rfl : sh = true := HSX.out rfl
      go_wp2_with fail
      refine (HSH.out _ HA2 HE2 HC2).mono ?_
      rintro e w' ⟨rfl, rfl⟩
      go_wp2_with fail
      go_ret
      exact ⟨rfl, HB2.out⟩
    obtain rfl : sh = true := HM1.out rfl rfl
    go_enter Try.func10, Try.ntmps10
    go_wp2_with fail
    refine (quorum_awake _).mono ?_
    rintro e w1 ⟨rfl, hb1⟩
    have HB1 := Lib.hid hb1
    have HA1 := Lib.hid (hA.out.bel hb1)
    have HE1 := Lib.hid (hB.out.bel hb1)
    have HC1 := Lib.hid (hC.out.bel hb1)
    clear hb1
    go_wp2_with fail
    refine (HW1.out _ HA1 HE1).mono ?_
    rintro e w' ⟨rfl, rfl⟩
    go_wp2_with fail
    refine (HW2.out _ HA1 HC1).mono ?_
    rintro e w' ⟨rfl, rfl⟩
    go_wp2_with fail
    refine (HSH.out _ HA1 HE1 HC1).mono ?_
    rintro e w' ⟨rfl, rfl⟩
    go_wp2_with fail
    refine (HN.out _ HA1).mono ?_
    rintro e w2 ⟨⟨v2, rfl, hv2⟩, hb2⟩
    have HB2 := Lib.hid (bel_tr HB1.out hb2)
    have HA2 := Lib.hid (HA1.out.bel hb2)
    have HE2 := Lib.hid (HE1.out.bel hb2)
    have HC2 := Lib.hid (HC1.out.bel hb2)
    clear hb2
    rcases o with _ | x
    · unfold ResI at hv2
      subst hv2
      go_wp2_with fail
      go_ret
      exact ⟨rfl, HB2.out⟩
    obtain ⟨u2, rfl, ho2⟩ := hv2
    obtain ⟨D, c, rfl, m1, m2, hD, _⟩ := ho2.form
    have HX := Lib.hid (HWX.out _ D c x (Lib.hid hD) HC2 m1 m2)

    generalize Qm.wins x b = y at *
    clear ho2 hD m1 m2
    go_wp2_with fail
    refine (HW1.out _ HA2 HE2).mono ?_
    rintro e w' ⟨rfl, rfl⟩
    go_wp2_with fail
    refine HX.out.mono ?_
    rintro e w' ⟨rfl, rfl⟩
    cases y
    · go_wp2_with fail
      go_ret
      exact ⟨rfl, HB2.out⟩

    go_wp2_with fail
    refine (HSH.out _ HA2 HE2 HC2).mono ?_
    rintro e w' ⟨rfl, rfl⟩
    go_wp2_with fail
    go_ret
    exact ⟨rfl, HB2.out⟩
  have hai : (add != 0) = true := by rw [bne_iff_ne]; exact ha
  have hri : (remove != 0) = true := by rw [bne_iff_ne]; exact hr
  cases x1
  · go_enter Try.func10, Try.ntmps10
    go_wp2_with fail
    refine (quorum_awake _).mono ?_
    rintro e w1 ⟨rfl, hb1⟩
    have HB1 := Lib.hid hb1
    have HA1 := Lib.hid (hA.out.bel hb1)
    have HE1 := Lib.hid (hB.out.bel hb1)
    have HC1 := Lib.hid (hC.out.bel hb1)
    clear hb1
    go_wp2_with fail
    refine (HW1.out _ HA1 HE1).mono ?_
    rintro e w' ⟨rfl, rfl⟩
    go_wp2_with fail
    go_ret
    exact ⟨rfl, HB1.out⟩
  cases x2
  · go_enter Try.func10, Try.ntmps10
    go_wp2_with fail
    refine (quorum_awake _).mono ?_
    rintro e w1 ⟨rfl, hb1⟩
    have HB1 := Lib.hid hb1
    have HA1 := Lib.hid (hA.out.bel hb1)
    have HE1 := Lib.hid (hB.out.bel hb1)
    have HC1 := Lib.hid (hC.out.bel hb1)
    clear hb1
    go_wp2_with fail
    refine (HW1.out _ HA1 HE1).mono ?_
    rintro e w' ⟨rfl, rfl⟩
    go_wp2_with fail
    refine (HW2.out _ HA1 HC1).mono ?_
    rintro e w' ⟨rfl, rfl⟩
    go_wp2_with fail
    go_ret
    exact ⟨rfl, HB1.out⟩
  obtain rfl : sh = true := HM1.out rfl rfl
  go_enter Try.func10, Try.ntmps10
  go_wp2_with fail
  refine (quorum_awake _).mono ?_
  rintro e w1 ⟨rfl, hb1⟩
  have HB1 := Lib.hid hb1
  have HA1 := Lib.hid (hA.out.bel hb1)
  have HE1 := Lib.hid (hB.out.bel hb1)
  have HC1 := Lib.hid (hC.out.bel hb1)
  clear hb1
  go_wp2_with fail
  refine (HW1.out _ HA1 HE1).mono ?_
  rintro e w' ⟨rfl, rfl⟩
  go_wp2_with fail
  refine (HW2.out _ HA1 HC1).mono ?_
  rintro e w' ⟨rfl, rfl⟩
  go_wp2_with fail
  refine (HSH.out _ HA1 HE1 HC1).mono ?_
  rintro e w' ⟨rfl, rfl⟩
  go_wp2_with fail
  go_ret
  exact ⟨rfl, HB1.out⟩

set_option maxRecDepth 100000 in
theorem walks {H : Type} (enc : TypeId × Value → H) : Walks enc Try.prog 10 Try.f10 := by
  intro W base args ds ps hval hA hwt
  rw [Try.params10] at hA hval hwt
  obtain ⟨v0, vs0, d0, ds0, p0, q0, hargs, rfl, rfl, h0, r0⟩ := trodAll_cons hA
  obtain ⟨v1, vs1, d1, ds1, p1, q1, rfl, rfl, rfl, h1, r1⟩ := trodAll_cons r0
  obtain ⟨v2, vs2, d2, ds2, p2, q2, rfl, rfl, rfl, h2, r2⟩ := trodAll_cons r1
  obtain ⟨v3, vs3, d3, ds3, p3, q3, rfl, rfl, rfl, h3, r3⟩ := trodAll_cons r2
  obtain ⟨v4, vs4, d4, ds4, p4, q4, rfl, rfl, rfl, h4, r4⟩ := trodAll_cons r3
  obtain ⟨rfl, rfl, rfl⟩ := trodAll_nil r4
  obtain rfl : args = #[v0, v1, v2, v3, v4] := by cases args; simp_all
  obtain ⟨A0, l0, cap0, rfl, a0, b0, c0, g0⟩ := ints_arg (hval 0 45 v0 rfl rfl) h0 (weightsEach_at (i := 0) hwt rfl rfl)
  obtain ⟨A1, l1, cap1, rfl, a1, b1, c1, g1⟩ := ints_arg (hval 1 45 v1 rfl rfl) h1 (weightsEach_at (i := 1) hwt rfl rfl)
  obtain ⟨A2, l2, cap2, rfl, a2, b2, c2, g2⟩ := ints_arg (hval 2 45 v2 rfl rfl) h2 (weightsEach_at (i := 2) hwt rfl rfl)
  have hw3 := weightsEach_at (i := 3) hwt rfl rfl
  obtain ⟨n3, rfl, rfl, rfl, m3⟩ := open_int Try.underlying3 (hval 3 3 v3 rfl rfl) h3
  simp [Lit.wf, IntKind.min, IntKind.max, IntKind.signed, IntKind.bits] at m3
  have hw4 := weightsEach_at (i := 4) hwt rfl rfl
  obtain ⟨n4, rfl, rfl, rfl, m4⟩ := open_int Try.underlying3 (hval 4 3 v4 rfl rfl) h4
  simp [Lit.wf, IntKind.min, IntKind.max, IntKind.signed, IntKind.bits] at m4
  exact walk A0 cap0 l0 A1 cap1 l1 A2 cap2 l2 n3 n4 W (Lib.hid c0) a0 b0 (Lib.hid g0) (Lib.hid c1) a1 b1 (Lib.hid g1) (Lib.hid c2) a2 b2 (Lib.hid g2) (by omega) (by omega) (by omega) (by omega)

set_option maxRecDepth 100000 in
theorem lifted (os : Os) (started : os.Started) (H : Type) (enc : TypeId × Value → H) :
    ReturnsInHanded {} Try.checked os 10 .any (Rows.quorumMeetsSpec.pre6 enc Try.prog Try.f10 Rows.quorumMeetsRow.domain false) (Rows.quorumMeetsSpec.post enc Try.prog Try.f10 false true false false) :=
  frame_lifted (C := Try.checked) own started (by kernel_rfl) Try.func10
    (ChangeSpec.witness6 (enc := enc) (C := Try.checked) false ⟨#[], #[.slice none 0 0, .slice none 0 0, .slice none 0 0, .int .i64 0, .int .i64 0], []⟩ 8 (by kernel_rfl) (by kernel_rfl) (by kernel_rfl) (by kernel_rfl)) laidOut (by kernel_rfl) rfl (by rfl) Try.underlying4
    (fun ds h => match ds, h with | [d0, d1, d2, d3, d4], _ => ⟨rfl, rfl, rfl⟩) (walks enc)

theorem over : Rows.quorumMeetsRow.holds Try.pinned (OpenSpec.ofChange Rows.quorumMeetsSpec) :=
  OpenClaim.holds_of_wide 10 Try.f10 rfl rfl rfl rfl rfl rfl rfl ⟨rfl, rfl, rfl, rfl, rfl⟩ rfl rfl rfl rfl rfl (by kernel_rfl) Try.func10 (by kernel_rfl)
    (of_decide_eq_true (by kernel_rfl)) (by unfold Func.isWrapper; first | (rw [if_pos (by decide +kernel)]; kernel_rfl) | (rw [if_neg (by decide +kernel)]; exact ⟨rfl, rfl⟩))
    (fun os started H enc _ => lifted os started H enc)

/-- the statement -/
theorem proved : Rows.QuorumMeetsSaid := over
end Go.Proofs.Ytdladjgdhnkkcaa.lawQuorumMeets
