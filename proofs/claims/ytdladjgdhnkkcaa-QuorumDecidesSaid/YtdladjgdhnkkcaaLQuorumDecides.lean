/-
  QuorumDecides: which lists are configurations, and which sets win over one and over two.
  No condition.
-/
import Derived.Test.YtdladjgdhnkkcaaQ10
import Derived.Test.YtdladjgdhnkkcaaFrame
import Derived.Test.YtdladjgdhnkkcaaRows
namespace Go.Proofs.Ytdladjgdhnkkcaa.lawQuorumDecides
open Go.RowKit Go.ChangeShapes Go.WideShapes Go.ChangeAt Go.Deep Go.Proofs.Ytdladjgdhnkkcaa
set_option linter.unusedVariables false
set_option linter.unusedSimpArgs false

set_option maxRecDepth 20000 in
set_option maxHeartbeats 4000000 in
theorem walk (A : Option Addr) (cap : Nat) (a : List Int) (B : Option Addr) (capB : Nat) (b : List Int) (C : Option Addr) (capC : Nat) (s : List Int) (w : World)
    (hA : Hid (RdI w A a)) (hla : a.length ≤ cap) (hca : cap ≤ 20000000000000) (ga : Hid (∀ k ∈ a, -9223372036854775808 ≤ k ∧ k ≤ 9223372036854775807)) (hB : Hid (RdI w B b)) (hlb : b.length ≤ capB) (hcb : capB ≤ 20000000000000) (gb : Hid (∀ k ∈ b, -9223372036854775808 ≤ k ∧ k ≤ 9223372036854775807)) (hC : Hid (RdI w C s)) (hls : s.length ≤ capC) (hcs : capC ≤ 20000000000000) (gc : Hid (∀ k ∈ s, -9223372036854775808 ≤ k ∧ k ≤ 9223372036854775807)) :
    Calls Try.prog 14 #[.slice A a.length cap, .slice B b.length capB, .slice C s.length capC] w fun e w' => e = .returned (.bool true) ∧ Below w.heap.size w w' := by
  go_enter Try.func14, Try.ntmps14
  go_wp2_with fail
  refine (quorum_awake _).mono ?_
  rintro e w1 ⟨rfl, hb1⟩
  have HB1 := Lib.hid hb1
  have HA := Lib.hid (hA.out.bel hb1)
  have HB := Lib.hid (hB.out.bel hb1)
  have HC := Lib.hid (hC.out.bel hb1)
  have k1 := Lib.hid (qcheck_calls A cap a w1 HA hla (by omega))
  have k2 := Lib.hid (qrcheck_calls A cap a w1 HA (by omega))
  have k3 := Lib.hid (wins_calls A C cap capC a s w1 HA hla (by omega) HC (by omega))
  have k4 := Lib.hid (rwins_calls A C cap capC a s w1 HA (by omega) HC (by omega))
  have k5 := Lib.hid (both_calls A B C cap capB capC a b s w1 HA hla (by omega) HB hlb (by omega) HC (by omega))
  have k6 := Lib.hid (rwins_calls B C capB capC b s w1 HB (by omega) HC (by omega))
  generalize Qm.chk a = x at *
  generalize Qm.wins a s = y at *
  generalize Qm.wins b s = z at *
  clear hb1 HA HB HC hA hB hC
  go_wp2_with fail
  refine k1.out.mono ?_
  rintro e w' ⟨rfl, rfl⟩
  cases x <;> cases y <;> cases z <;>
  (go_wp2_with fail
   refine k2.out.mono ?_
   rintro e w' ⟨rfl, rfl⟩
   go_wp2_with fail
   refine k3.out.mono ?_
   rintro e w' ⟨rfl, rfl⟩
   go_wp2_with fail
   refine k4.out.mono ?_
   rintro e w' ⟨rfl, rfl⟩
   go_wp2_with fail
   refine k5.out.mono ?_
   rintro e w' ⟨rfl, rfl⟩
   go_wp2_with fail
   refine k4.out.mono ?_
   rintro e w' ⟨rfl, rfl⟩
   go_wp2_with fail
   try (refine k6.out.mono ?_
        rintro e w' ⟨rfl, rfl⟩
        go_wp2_with fail)
   go_ret
   exact ⟨rfl, HB1.out⟩)

set_option maxRecDepth 100000 in
theorem walks {H : Type} (enc : TypeId × Value → H) : Walks enc Try.prog 14 Try.f14 := by
  intro W base args ds ps hval hA hwt
  rw [Try.params14] at hA hval hwt
  obtain ⟨v0, vs0, d0, ds0, p0, q0, hargs, rfl, rfl, h0, r0⟩ := trodAll_cons hA
  obtain ⟨v1, vs1, d1, ds1, p1, q1, rfl, rfl, rfl, h1, r1⟩ := trodAll_cons r0
  obtain ⟨v2, vs2, d2, ds2, p2, q2, rfl, rfl, rfl, h2, r2⟩ := trodAll_cons r1
  obtain ⟨rfl, rfl, rfl⟩ := trodAll_nil r2
  obtain rfl : args = #[v0, v1, v2] := by cases args; simp_all
  obtain ⟨A0, l0, cap0, rfl, a0, b0, c0, g0⟩ := ints_arg (hval 0 45 v0 rfl rfl) h0 (weightsEach_at (i := 0) hwt rfl rfl)
  obtain ⟨A1, l1, cap1, rfl, a1, b1, c1, g1⟩ := ints_arg (hval 1 45 v1 rfl rfl) h1 (weightsEach_at (i := 1) hwt rfl rfl)
  obtain ⟨A2, l2, cap2, rfl, a2, b2, c2, g2⟩ := ints_arg (hval 2 45 v2 rfl rfl) h2 (weightsEach_at (i := 2) hwt rfl rfl)
  exact walk A0 cap0 l0 A1 cap1 l1 A2 cap2 l2 W (Lib.hid c0) a0 b0 (Lib.hid g0) (Lib.hid c1) a1 b1 (Lib.hid g1) (Lib.hid c2) a2 b2 (Lib.hid g2)

set_option maxRecDepth 100000 in
theorem lifted (os : Os) (started : os.Started) (H : Type) (enc : TypeId × Value → H) :
    ReturnsInHanded {} Try.checked os 14 .any (Rows.quorumDecidesSpec.pre6 enc Try.prog Try.f14 Rows.quorumDecidesRow.domain false) (Rows.quorumDecidesSpec.post enc Try.prog Try.f14 false true false false) :=
  frame_lifted (C := Try.checked) own started (by kernel_rfl) Try.func14
    (ChangeSpec.witness6 (enc := enc) (C := Try.checked) false ⟨#[], #[.slice none 0 0, .slice none 0 0, .slice none 0 0], []⟩ 8 (by kernel_rfl) (by kernel_rfl) (by kernel_rfl) (by kernel_rfl)) laidOut (by kernel_rfl) rfl (by rfl) Try.underlying4
    (fun ds h => match ds, h with | [d0, d1, d2], _ => ⟨rfl, rfl, rfl⟩) (walks enc)

theorem over : Rows.quorumDecidesRow.holds Try.pinned (OpenSpec.ofChange Rows.quorumDecidesSpec) :=
  OpenClaim.holds_of_wide 14 Try.f14 rfl rfl rfl rfl rfl rfl rfl ⟨rfl, rfl, rfl, rfl, rfl⟩ rfl rfl rfl rfl rfl (by kernel_rfl) Try.func14 (by kernel_rfl)
    (of_decide_eq_true (by kernel_rfl)) (by unfold Func.isWrapper; first | (rw [if_pos (by decide +kernel)]; kernel_rfl) | (rw [if_neg (by decide +kernel)]; exact ⟨rfl, rfl⟩))
    (fun os started H enc _ => lifted os started H enc)

/-- the statement -/
theorem proved : Rows.QuorumDecidesSaid := over
end Go.Proofs.Ytdladjgdhnkkcaa.lawQuorumDecides
