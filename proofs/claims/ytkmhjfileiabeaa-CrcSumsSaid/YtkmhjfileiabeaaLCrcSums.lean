/-
  The statement CrcSums: the table's sums are those that are reckoned bit by bit.
  No condition.
-/
import Derived.Test.YtkmhjfileiabeaaCrcA
namespace Go.Proofs.Ytkmhjfileiabeaa.lawCrcSums
open Go.ChangeShapes Go.WideShapes Go.ChangeAt Go.RowKit
set_option linter.unusedVariables false

theorem walk (A : Option Addr) (cap : Nat) (xs : List Nat) (s : Nat) (hs : Hid (s < 2 ^ 32)) (w : World) (hR : Rd8 w A xs) (hlen : Hid (xs.length ≤ 9223372036854775807)) :
    Calls Try.prog 3 #[.slice A xs.length cap, .int .u32 s] w fun e w' => e = .returned (.bool true) ∧ Below w.heap.size w w' := by
  have HR := Lib.hid hR
  clear hR
  go_enter Try.func3, Try.ntmps3
  go_wp2_with fail
  refine (crc_awake _).mono ?_
  rintro e w1 ⟨rfl, hb1⟩
  go_wp2_with fail
  refine (new_calls _).mono ?_
  rintro e w2 ⟨rfl, rfl⟩
  have hT := new_tab w1
  have hb2 : Below w.heap.size w (w1.alloc (.cells tabNew 67)) := bel_new hb1 _
  generalize w1.alloc (.cells tabNew 67) = w2 at *
  have hsz := hb1.size
  have hlt := hT.lt
  generalize w1.heap.size = g at *
  have HT := Lib.hid hT
  have HB := Lib.hid hb2
  clear hT hb2 hb1
  go_wp2_with fail
  refine (more_calls g s A cap xs w2 hs HT.out (HR.out.bel HB.out) (HR.out.off hsz) hlen.out).mono ?_
  rintro e w3 ⟨rfl, hO3, hT3⟩
  have HO3 := Lib.hid hO3
  have HT3 := Lib.hid hT3
  clear hO3 hT3
  go_wp2_with fail
  refine (rmore_calls s A cap xs w3 hs (Lib.hid (HR.out.bel (HO3.out.bel HB.out hsz))) hlen.out).mono ?_
  rintro e w4 ⟨rfl, rfl⟩
  go_wp2_with fail
  refine (sum_calls g A cap xs w3 HT3.out.at_ (HR.out.bel (HO3.out.bel HB.out hsz)) (HR.out.off hsz) hlen.out).mono ?_
  rintro e w5 ⟨rfl, hO5, hT5⟩
  have hb5 := hO5.bel (HO3.out.bel HB.out hsz) hsz
  clear hO5 hT5
  go_wp2_with fail
  refine (rsum_calls A cap xs w5 (Lib.hid (HR.out.bel hb5)) hlen.out).mono ?_
  rintro e w6 ⟨rfl, rfl⟩
  go_wp2_with fail
  go_ret
  exact ⟨rfl, hb5⟩

set_option maxRecDepth 100000 in
theorem walks {H : Type} (enc : TypeId × Value → H) : Walks enc Try.prog 3 Try.f3 := by
  intro W base args ds ps hval hA hwt
  rw [Try.params3] at hA hval hwt
  obtain ⟨v0, vs0, d0, ds0, p0, q0, hargs, rfl, rfl, h0, r0⟩ := trodAll_cons hA
  obtain ⟨v1, vs1, d1, ds1, p1, q1, rfl, rfl, rfl, h1, r1⟩ := trodAll_cons r0
  obtain ⟨rfl, rfl, rfl⟩ := trodAll_nil r1
  obtain rfl : args = #[v0, v1] := by cases args; simp_all
  obtain ⟨A, xs, cap, rfl, c1, c2, hR⟩ := bytes_arg (hval 0 22 v0 rfl rfl) h0 (weightsEach_at (i := 0) hwt rfl rfl)
  obtain ⟨a1, rfl, rfl, rfl, w1⟩ := open_int Try.underlying23 (hval 1 23 v1 rfl rfl) h1
  have hr : 0 ≤ a1 ∧ a1 ≤ 4294967295 := by have := w1; simp [Lit.wf, IntKind.min, IntKind.max, IntKind.signed, IntKind.bits] at this; omega
  obtain ⟨s, rfl⟩ := Int.eq_ofNat_of_zero_le hr.1
  exact walk A cap xs s (Lib.hid (by omega)) W hR (Lib.hid (by omega))

set_option maxRecDepth 100000 in
theorem lifted (os : Os) (started : os.Started) (H : Type) (enc : TypeId × Value → H) :
    ReturnsInHanded {} Try.checked os 3 .any (Rows.crcSumsSpec.pre6 enc Try.prog Try.f3 Rows.crcSumsRow.domain false) (Rows.crcSumsSpec.post enc Try.prog Try.f3 false true false false) :=
  frame_lifted (C := Try.checked) own started (by kernel_rfl) Try.func3
    (ChangeSpec.witness6 (enc := enc) (C := Try.checked) false ⟨#[], #[.slice none 0 0, .int .u32 0], []⟩ 8 (by kernel_rfl) (by kernel_rfl) (by kernel_rfl) (by kernel_rfl)) laidOut (by kernel_rfl) rfl (by rfl) Try.underlying4
    (fun ds h => match ds, h with | [d0, d1], _ => ⟨rfl, rfl, rfl⟩) (walks enc)

theorem over : Rows.crcSumsRow.holds Try.pinned (OpenSpec.ofChange Rows.crcSumsSpec) :=
  OpenClaim.holds_of_wide 3 Try.f3 rfl rfl rfl rfl rfl rfl rfl ⟨rfl, rfl, rfl, rfl, rfl⟩ rfl rfl rfl rfl rfl (by kernel_rfl) Try.func3 (by kernel_rfl)
    (of_decide_eq_true (by kernel_rfl)) (by unfold Func.isWrapper; first | (rw [if_pos (by decide +kernel)]; kernel_rfl) | (rw [if_neg (by decide +kernel)]; exact ⟨rfl, rfl⟩))
    (fun os started H enc _ => lifted os started H enc)

/-- the statement -/
theorem proved : Rows.CrcSumsSaid := over
end Go.Proofs.Ytkmhjfileiabeaa.lawCrcSums
