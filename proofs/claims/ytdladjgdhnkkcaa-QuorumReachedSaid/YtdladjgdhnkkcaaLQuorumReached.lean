/-
  QuorumReached: what more than half of the nodes have reached, and which configuration comes of another.
  No condition.
-/
import Derived.Test.YtdladjgdhnkkcaaQ10
import Derived.Test.YtdladjgdhnkkcaaFrame
import Derived.Test.YtdladjgdhnkkcaaRows
namespace Go.Proofs.Ytdladjgdhnkkcaa.lawQuorumReached
open Go.RowKit Go.ChangeShapes Go.WideShapes Go.ChangeAt Go.Deep Go.Proofs.Ytdladjgdhnkkcaa
set_option linter.unusedVariables false
set_option linter.unusedSimpArgs false

set_option maxRecDepth 20000 in
set_option maxHeartbeats 4000000 in
theorem walk (A : Option Addr) (cap : Nat) (a : List Int) (B : Option Addr) (capB : Nat) (m : List (Int × Int)) (add remove : Int) (w : World)
    (hA : Hid (RdI w A a)) (hla : a.length ≤ cap) (hca : cap ≤ 20000000000000) (ga : Hid (∀ k ∈ a, -9223372036854775808 ≤ k ∧ k ≤ 9223372036854775807)) (hB : Hid (RdL layIt w B m)) (hlb : m.length ≤ capB) (hcb : capB ≤ 20000000000000) (gb : Hid (∀ x ∈ m, -9223372036854775808 ≤ x.2 ∧ x.2 ≤ 9223372036854775807))
    (n1 : -9223372036854775808 ≤ add) (n2 : add ≤ 9223372036854775807) (n3 : -9223372036854775808 ≤ remove) (n4 : remove ≤ 9223372036854775807) :
    Calls Try.prog 9 #[.slice A a.length cap, .slice B m.length capB, .int .i64 add, .int .i64 remove] w fun e w' => e = .returned (.bool true) ∧ Below w.heap.size w w' := by
  obtain ⟨o, ho⟩ : ∃ o, o = Qm.nxt a add remove := ⟨_, rfl⟩
  obtain ⟨t, ht⟩ : ∃ t, t = Qm.reached a m := ⟨_, rfl⟩
  have HN := Lib.hid (fun (W : World) (h : Hid (RdI W A a)) => next_calls A cap a add remove W h hla (by omega))
  have HRN := Lib.hid (fun (W : World) (h : Hid (RdI W A a)) => rnext_calls A cap a add remove W h (by omega))
  have HR := Lib.hid (fun (W : World) (h : Hid (RdI W A a)) (h2 : Hid (RdL layIt W B m)) => reached_calls A B cap capB a m W h hla (by omega) h2 (by omega))
  have HRR := Lib.hid (fun (W : World) (h : Hid (RdI W A a)) (h2 : Hid (RdL layIt W B m)) => rreached_calls A B cap capB a m W h (by omega) h2 (by omega))
  rw [← ho] at HN HRN
  rw [← ht] at HR HRR
  clear ho ht ga gb
  go_enter Try.func9, Try.ntmps9
  go_wp2_with fail
  refine (quorum_awake _).mono ?_
  rintro e w1 ⟨rfl, hb1⟩
  have HB1 := Lib.hid hb1
  clear hb1
  go_wp2_with fail
  refine (HN.out w1 (Lib.hid (hA.out.bel HB1.out))).mono ?_
  rintro e w2 ⟨⟨v2, rfl, hv2⟩, hb2⟩
  obtain ⟨u2, e2, rfl⟩ := res_pairI hv2
  obtain ⟨q2, x2, A2, c2, rfl, rfl, m1, m2, r2, i2⟩ := res_readI hv2
  have hx2 : x2.length ≤ 9223372036854775807 := Nat.le_trans m1 (Nat.le_trans m2 (by decide))
  clear m1 m2
  have HB2 := Lib.hid (bel_tr HB1.out hb2)
  have R2 := Lib.hid r2
  clear hb2 hv2 r2
  go_wp2_with fail
  refine (HRN.out w2 (Lib.hid (hA.out.bel HB2.out))).mono ?_
  rintro e w3 ⟨⟨v3, rfl, hv3⟩, hb3⟩
  obtain ⟨u3, e3, rfl⟩ := res_pairI hv3
  obtain ⟨q3, x3, A3, c3, rfl, rfl, _, _, r3, i3⟩ := res_readI hv3
  have HB3 := Lib.hid (bel_tr HB2.out hb3)
  have R2' := Lib.hid (R2.out.bel hb3)
  have R3 := Lib.hid r3
  obtain rfl : q2 = q3 := i2.out.1.trans i3.out.1.symm
  obtain rfl : x2 = x3 := i2.out.2.trans i3.out.2.symm
  clear hb3 hv3 r3 R2 i2 i3
  go_wp2_with fail
  refine (HR.out w3 (Lib.hid (hA.out.bel HB3.out)) (Lib.hid (hB.out.bel HB3.out))).mono ?_
  rintro e w4 ⟨rfl, hb4⟩
  have HB4 := Lib.hid (bel_tr HB3.out hb4)
  have R24 := Lib.hid (R2'.out.bel hb4)
  have R34 := Lib.hid (R3.out.bel hb4)
  clear hb4
  go_wp2_with fail
  refine (HRR.out w4 (Lib.hid (hA.out.bel HB4.out)) (Lib.hid (hB.out.bel HB4.out))).mono ?_
  rintro e w' ⟨rfl, rfl⟩
  go_wp2_with fail
  refine (qints_calls A2 A3 _ _ x2 x2 w4 R24 (by omega) R34 (by omega)).mono ?_
  rintro e w5 ⟨rfl, hb5⟩
  have HB5 := Lib.hid (bel_tr HB4.out hb5)
  rw [show decide (x2 = x2) = true from by simp]
  clear hb5
  go_wp2_with fail
  go_ret
  exact ⟨rfl, HB5.out⟩

set_option maxRecDepth 100000 in
theorem walks {H : Type} (enc : TypeId × Value → H) : Walks enc Try.prog 9 Try.f9 := by
  intro W base args ds ps hval hA hwt
  rw [Try.params9] at hA hval hwt
  obtain ⟨v0, vs0, d0, ds0, p0, q0, hargs, rfl, rfl, h0, r0⟩ := trodAll_cons hA
  obtain ⟨v1, vs1, d1, ds1, p1, q1, rfl, rfl, rfl, h1, r1⟩ := trodAll_cons r0
  obtain ⟨v2, vs2, d2, ds2, p2, q2, rfl, rfl, rfl, h2, r2⟩ := trodAll_cons r1
  obtain ⟨v3, vs3, d3, ds3, p3, q3, rfl, rfl, rfl, h3, r3⟩ := trodAll_cons r2
  obtain ⟨rfl, rfl, rfl⟩ := trodAll_nil r3
  obtain rfl : args = #[v0, v1, v2, v3] := by cases args; simp_all
  obtain ⟨A0, l0, cap0, rfl, a0, b0, c0, g0⟩ := ints_arg (hval 0 45 v0 rfl rfl) h0 (weightsEach_at (i := 0) hwt rfl rfl)
  obtain ⟨A1, l1, cap1, rfl, a1, b1, c1, g1⟩ := items_arg (hval 1 58 v1 rfl rfl) h1 (weightsEach_at (i := 1) hwt rfl rfl)
  have hw2 := weightsEach_at (i := 2) hwt rfl rfl
  obtain ⟨n2, rfl, rfl, rfl, m2⟩ := open_int Try.underlying3 (hval 2 3 v2 rfl rfl) h2
  simp [Lit.wf, IntKind.min, IntKind.max, IntKind.signed, IntKind.bits] at m2
  have hw3 := weightsEach_at (i := 3) hwt rfl rfl
  obtain ⟨n3, rfl, rfl, rfl, m3⟩ := open_int Try.underlying3 (hval 3 3 v3 rfl rfl) h3
  simp [Lit.wf, IntKind.min, IntKind.max, IntKind.signed, IntKind.bits] at m3
  exact walk A0 cap0 l0 A1 cap1 l1 n2 n3 W (Lib.hid c0) a0 b0 (Lib.hid g0) (Lib.hid c1) a1 b1 (Lib.hid g1) (by omega) (by omega) (by omega) (by omega)

set_option maxRecDepth 100000 in
theorem lifted (os : Os) (started : os.Started) (H : Type) (enc : TypeId × Value → H) :
    ReturnsInHanded {} Try.checked os 9 .any (Rows.quorumReachedSpec.pre6 enc Try.prog Try.f9 Rows.quorumReachedRow.domain false) (Rows.quorumReachedSpec.post enc Try.prog Try.f9 false true false false) :=
  frame_lifted (C := Try.checked) own started (by kernel_rfl) Try.func9
    (ChangeSpec.witness6 (enc := enc) (C := Try.checked) false ⟨#[], #[.slice none 0 0, .slice none 0 0, .int .i64 0, .int .i64 0], []⟩ 8 (by kernel_rfl) (by kernel_rfl) (by kernel_rfl) (by kernel_rfl)) laidOut (by kernel_rfl) rfl (by rfl) Try.underlying4
    (fun ds h => match ds, h with | [d0, d1, d2, d3], _ => ⟨rfl, rfl, rfl⟩) (walks enc)

theorem over : Rows.quorumReachedRow.holds Try.pinned (OpenSpec.ofChange Rows.quorumReachedSpec) :=
  OpenClaim.holds_of_wide 9 Try.f9 rfl rfl rfl rfl rfl rfl rfl ⟨rfl, rfl, rfl, rfl, rfl⟩ rfl rfl rfl rfl rfl (by kernel_rfl) Try.func9 (by kernel_rfl)
    (of_decide_eq_true (by kernel_rfl)) (by unfold Func.isWrapper; first | (rw [if_pos (by decide +kernel)]; kernel_rfl) | (rw [if_neg (by decide +kernel)]; exact ⟨rfl, rfl⟩))
    (fun os started H enc _ => lifted os started H enc)

/-- the statement -/
theorem proved : Rows.QuorumReachedSaid := over
end Go.Proofs.Ytdladjgdhnkkcaa.lawQuorumReached
