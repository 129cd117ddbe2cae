/-
  QuorumBack: a node that is added and removed again leaves the configuration as it was.
  No condition.
-/
import Derived.Test.YtdladjgdhnkkcaaQR
import Derived.Test.YtdladjgdhnkkcaaFrame
import Derived.Test.YtdladjgdhnkkcaaRows
namespace Go.Proofs.Ytdladjgdhnkkcaa.lawQuorumBack
open Go.RowKit Go.ChangeShapes Go.WideShapes Go.ChangeAt Go.Deep Go.Proofs.Ytdladjgdhnkkcaa
set_option linter.unusedVariables false
set_option linter.unusedSimpArgs false

set_option maxRecDepth 20000 in
set_option maxHeartbeats 8000000 in
theorem walk (A : Option Addr) (cap : Nat) (l : List Int) (node : Int) (w : World)
    (hA : Hid (RdI w A l)) (hll : l.length ≤ cap) (hcl : cap ≤ 20000000000000) (gl : Hid (∀ k ∈ l, -9223372036854775808 ≤ k ∧ k ≤ 9223372036854775807))
    (n1 : -9223372036854775808 ≤ node) (n2 : node ≤ 9223372036854775807) :
    Calls Try.prog 13 #[.slice A l.length cap, .int .i64 node] w fun e w' => e = .returned (.bool true) ∧ Below w.heap.size w w' := by
  have HN := Lib.hid (fun (W : World) (D : Option Addr) (c : Nat) (x : List Int) (n m : Int) (h : Hid (RdI W D x)) (h1 : x.length ≤ c) (h2 : c ≤ maxLen) => next_calls D c x n m W h h1 (Nat.le_trans h2 (by decide)))
  have HIN := Lib.hid (fun (W : World) (D : Option Addr) (c : Nat) (h : Hid (RdI W D l)) (h2 : Hid (RdI W A l)) => qints_calls D A c cap l l W h (by omega) h2 (by omega))
  rw [show decide (l = l) = true from by simp] at HIN
  have HCK := Lib.hid (fun (W : World) (D : Option Addr) (c : Nat) (x : List Int) (h : Hid (RdI W D x)) (h1 : x.length ≤ c) (h2 : c ≤ maxLen) => qcheck_calls D c x W h h1 (Nat.le_trans h2 (by decide)))
  obtain ⟨o1, ho1⟩ : ∃ o, o = Qm.nxt l node 0 := ⟨_, rfl⟩
  obtain ⟨o2, ho2⟩ : ∃ o, o = Qm.nxt l 0 node := ⟨_, rfl⟩
  have HB1 := Lib.hid (fun h0 x hx => Qm.back_add (l := l) (x := x) (n := node) h0 hx)
  have HB2 := Lib.hid (fun h0 x hx => Qm.back_rem (l := l) (x := x) (n := node) h0 hx)
  have HZ := Lib.hid (fun x hx => Qm.nxt_zero (l := l) (x := x) hx)
  have HO1 := Lib.hid ho1
  have HO2 := Lib.hid ho2
  have hcm : cap ≤ maxLen := Nat.le_trans hcl (by decide)
  clear ho1 ho2 gl
  go_enter Try.func13, Try.ntmps13
  go_wp2_with fail
  refine (quorum_awake _).mono ?_
  rintro e w1 ⟨rfl, hb1⟩
  have HW1 := Lib.hid hb1
  have HA1 := Lib.hid (hA.out.bel hb1)
  clear hb1
  go_wp2_with fail
  refine (HN.out w1 A cap l node 0 HA1 hll hcm).mono ?_
  rw [← HO1.out]
  rintro e w2 ⟨⟨v2, rfl, hv2⟩, hb2⟩
  have HW2 := Lib.hid (bel_tr HW1.out hb2)
  have HA2 := Lib.hid (HA1.out.bel hb2)
  clear hb2
  by_cases hn : 0 < node
  rotate_left
  · -- a node that is none
    have hn2 : node ≤ 0 := by omega
    have hres : ∃ u2 e2 : Value, v2 = .tuple #[u2, e2] := res_pairI hv2
    obtain ⟨u2, e2, rfl⟩ := hres
    obtain ⟨q2, x2, A2, c2, rfl, rfl, m1, m2, r2, i2⟩ := res_readI hv2
    have hq2 : q2 = 0 ∨ q2 = 1 := by have := i2.out.1; split at this <;> omega
    clear hv2 r2 i2 m1 m2
    rcases hq2 with rfl | rfl <;>
    (go_wp2_with fail
     refine (HN.out w2 A cap l 0 node HA2 hll hcm).mono ?_
     rw [← HO2.out]
     rintro e w3 ⟨⟨v3, rfl, hv3⟩, hb3⟩
     have HW3 := Lib.hid (bel_tr HW2.out hb3)
     have HA3 := Lib.hid (HA2.out.bel hb3)
     clear hb3
     rcases o2 with _ | x
     · unfold ResI at hv3
       subst hv3
       go_wp2_with fail
       go_ret
       exact ⟨rfl, HW3.out⟩
     obtain ⟨g1, g2, g3, g4, g5, g6, g7⟩ := Qm.nxt_some HO2.out.symm
     have hn0 : node = 0 := by omega
     subst hn0
     have hxl := HZ.out x HO2.out.symm
     subst hxl
     obtain ⟨u3, rfl, ho3⟩ := hv3
     obtain ⟨D, c, rfl, m1, m2, hD, _⟩ := ho3.form
     have HD := Lib.hid hD
     clear ho3 hD g1 g2 g3 g4 g5 g6 g7
     go_wp2_with fail
     refine (HIN.out w3 D c HD HA3).mono ?_
     rintro e w4 ⟨rfl, hb4⟩
     have HW4 := Lib.hid (bel_tr HW3.out hb4)
     clear hb4
     go_wp2_with fail
     go_ret
     exact ⟨rfl, HW4.out⟩)
  have hn2 : ¬ node ≤ 0 := by omega
  -- the second half, from any world
  have HT : Hid (∀ W : World, Hid (RdI W A l) → ∀ x, o2 = some x → ∀ (D : Option Addr) (c : Nat), Hid (RdI W D x) → x.length ≤ c → c ≤ maxLen → Calls Try.prog 41 #[.slice D x.length c, .int .i64 node, .int .i64 0] W fun e w' => (∃ v, e = .returned v ∧ ResI W.heap.size (some l) v w') ∧ Below W.heap.size W w') := Lib.hid (fun W h x hx D c h1 h2 h3 => by
    have := HN.out W D c x node 0 h1 h2 h3
    rwa [HB2.out hn x (HO2.out.symm.trans hx)] at this)
  rcases o1 with _ | x
  · unfold ResI at hv2
    subst hv2
    go_wp2_with fail
    refine (HN.out w2 A cap l 0 node HA2 hll hcm).mono ?_
    rw [← HO2.out]
    rintro e w5 ⟨⟨v5, rfl, hv5⟩, hb5⟩
    have HW5 := Lib.hid (bel_tr HW2.out hb5)
    have HA5 := Lib.hid (HA2.out.bel hb5)
    clear hb5
    rcases o2 with _ | y
    · unfold ResI at hv5
      subst hv5
      go_wp2_with fail
      go_ret
      exact ⟨rfl, HW5.out⟩
    obtain ⟨u5, rfl, ho5⟩ := hv5
    obtain ⟨D5, c5, rfl, m5, m6, hD5, _⟩ := ho5.form
    have HT5 := Lib.hid (HT.out w5 HA5 y rfl D5 c5 (Lib.hid hD5) m5 m6)
    clear ho5 hD5
    go_wp2_with fail
    refine HT5.out.mono ?_
    rintro e w6 ⟨⟨v6, rfl, hv6⟩, hb6⟩
    obtain ⟨u6, rfl, ho6⟩ := hv6
    obtain ⟨D6, c6, rfl, m7, m8, hD6, _⟩ := ho6.form
    have HD6 := Lib.hid hD6
    have HW6 := Lib.hid (bel_tr HW5.out hb6)
    have HA6 := Lib.hid (HA5.out.bel hb6)
    clear ho6 hD6 hb6
    go_wp2_with fail
    refine (HIN.out w6 D6 c6 HD6 HA6).mono ?_
    rintro e w7 ⟨rfl, hb7⟩
    have HW7 := Lib.hid (bel_tr HW6.out hb7)
    clear hb7
    go_wp2_with fail
    go_ret
    exact ⟨rfl, HW7.out⟩
  obtain ⟨u2, rfl, ho2⟩ := hv2
  obtain ⟨D, c, rfl, m1, m2, hD, _⟩ := ho2.form
  obtain ⟨k1, k2, k3⟩ := HB1.out hn x HO1.out.symm
  have HD := Lib.hid hD
  have hn1 := HN.out w2 D c x 0 node HD m1 m2
  rw [k1] at hn1
  have HN1 := Lib.hid hn1
  have HCX := Lib.hid (fun (W : World) (h : Hid (RdI W D x)) => HCK.out W D c x h m1 m2)
  rw [k3] at HCX
  have hlx : (x.length : Int) = (l.length : Int) + 1 := by omega
  have hx2 : x.length ≤ 9223372036854775807 := by omega
  clear ho2 hD hn1 k1 k2 k3
  go_wp2_with fail
  refine HN1.out.mono ?_
  rintro e w3 ⟨⟨v3, rfl, hv3⟩, hb3⟩
  obtain ⟨u3, rfl, ho3⟩ := hv3
  obtain ⟨D3, c3, rfl, m3, m4, hD3, _⟩ := ho3.form
  have HD3 := Lib.hid hD3
  have HW3 := Lib.hid (bel_tr HW2.out hb3)
  have HA3 := Lib.hid (HA2.out.bel hb3)
  have HX3 := Lib.hid (HD.out.bel hb3)
  clear ho3 hD3 hb3
  go_wp2_with fail
  refine (HIN.out w3 D3 c3 HD3 HA3).mono ?_
  rintro e w4 ⟨rfl, hb4⟩
  have HW4 := Lib.hid (bel_tr HW3.out hb4)
  have HA4 := Lib.hid (HA3.out.bel hb4)
  have HX4 := Lib.hid (HX3.out.bel hb4)
  clear hb4
  go_wp2_with fail
  refine (HCX.out w4 HX4).mono ?_
  rintro e w' ⟨rfl, rfl⟩
  go_wp2_with fail
  refine (HN.out w4 A cap l 0 node HA4 hll hcm).mono ?_
  rw [← HO2.out]
  rintro e w5 ⟨⟨v5, rfl, hv5⟩, hb5⟩
  have HW5 := Lib.hid (bel_tr HW4.out hb5)
  have HA5 := Lib.hid (HA4.out.bel hb5)
  clear hb5
  rcases o2 with _ | y
  · unfold ResI at hv5
    subst hv5
    go_wp2_with fail
    go_ret
    exact ⟨rfl, HW5.out⟩
  obtain ⟨u5, rfl, ho5⟩ := hv5
  obtain ⟨D5, c5, rfl, m5, m6, hD5, _⟩ := ho5.form
  have HT5 := Lib.hid (HT.out w5 HA5 y rfl D5 c5 (Lib.hid hD5) m5 m6)
  clear ho5 hD5
  go_wp2_with fail
  refine HT5.out.mono ?_
  rintro e w6 ⟨⟨v6, rfl, hv6⟩, hb6⟩
  obtain ⟨u6, rfl, ho6⟩ := hv6
  obtain ⟨D6, c6, rfl, m7, m8, hD6, _⟩ := ho6.form
  have HD6 := Lib.hid hD6
  have HW6 := Lib.hid (bel_tr HW5.out hb6)
  have HA6 := Lib.hid (HA5.out.bel hb6)
  clear ho6 hD6 hb6
  go_wp2_with fail
  refine (HIN.out w6 D6 c6 HD6 HA6).mono ?_
  rintro e w7 ⟨rfl, hb7⟩
  have HW7 := Lib.hid (bel_tr HW6.out hb7)
  clear hb7
  go_wp2_with fail
  go_ret
  exact ⟨rfl, HW7.out⟩

set_option maxRecDepth 100000 in
theorem walks {H : Type} (enc : TypeId × Value → H) : Walks enc Try.prog 13 Try.f13 := by
  intro W base args ds ps hval hA hwt
  rw [Try.params13] at hA hval hwt
  obtain ⟨v0, vs0, d0, ds0, p0, q0, hargs, rfl, rfl, h0, r0⟩ := trodAll_cons hA
  obtain ⟨v1, vs1, d1, ds1, p1, q1, rfl, rfl, rfl, h1, r1⟩ := trodAll_cons r0
  obtain ⟨rfl, rfl, rfl⟩ := trodAll_nil r1
  obtain rfl : args = #[v0, v1] := by cases args; simp_all
  obtain ⟨A0, l0, cap0, rfl, a0, b0, c0, g0⟩ := ints_arg (hval 0 45 v0 rfl rfl) h0 (weightsEach_at (i := 0) hwt rfl rfl)
  have hw1 := weightsEach_at (i := 1) hwt rfl rfl
  obtain ⟨n1, rfl, rfl, rfl, m1⟩ := open_int Try.underlying3 (hval 1 3 v1 rfl rfl) h1
  simp [Lit.wf, IntKind.min, IntKind.max, IntKind.signed, IntKind.bits] at m1
  exact walk A0 cap0 l0 n1 W (Lib.hid c0) a0 b0 (Lib.hid g0) (by omega) (by omega)

set_option maxRecDepth 100000 in
theorem lifted (os : Os) (started : os.Started) (H : Type) (enc : TypeId × Value → H) :
    ReturnsInHanded {} Try.checked os 13 .any (Rows.quorumBackSpec.pre6 enc Try.prog Try.f13 Rows.quorumBackRow.domain false) (Rows.quorumBackSpec.post enc Try.prog Try.f13 false true false false) :=
  frame_lifted (C := Try.checked) own started (by kernel_rfl) Try.func13
    (ChangeSpec.witness6 (enc := enc) (C := Try.checked) false ⟨#[], #[.slice none 0 0, .int .i64 0], []⟩ 8 (by kernel_rfl) (by kernel_rfl) (by kernel_rfl) (by kernel_rfl)) laidOut (by kernel_rfl) rfl (by rfl) Try.underlying4
    (fun ds h => match ds, h with | [d0, d1], _ => ⟨rfl, rfl, rfl⟩) (walks enc)

theorem over : Rows.quorumBackRow.holds Try.pinned (OpenSpec.ofChange Rows.quorumBackSpec) :=
  OpenClaim.holds_of_wide 13 Try.f13 rfl rfl rfl rfl rfl rfl rfl ⟨rfl, rfl, rfl, rfl, rfl⟩ rfl rfl rfl rfl rfl (by kernel_rfl) Try.func13 (by kernel_rfl)
    (of_decide_eq_true (by kernel_rfl)) (by unfold Func.isWrapper; first | (rw [if_pos (by decide +kernel)]; kernel_rfl) | (rw [if_neg (by decide +kernel)]; exact ⟨rfl, rfl⟩))
    (fun os started H enc _ => lifted os started H enc)

/-- the statement -/
theorem proved : Rows.QuorumBackSaid := over
end Go.Proofs.Ytdladjgdhnkkcaa.lawQuorumBack
