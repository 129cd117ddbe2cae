/-
  CodeReads (the second form): any bytes are read as any kinds, or refused, and unframed, or refused, as the document says.
  Condition: the bulk of what is read is at most 1048576.
-/
import Derived.Test.YtkmhjfileiabeaaCodeT
import Derived.Test.YtkmhjfileiabeaaFrameU
namespace Go.Proofs.Ytkmhjfileiabeaa.lawCodeReads
open Go.RowKit Go.ChangeShapes Go.WideShapes Go.ChangeAt Go.Deep Go.Proofs.Ytkmhjfileiabeaa
set_option linter.unusedVariables false
set_option linter.unusedSimpArgs false

set_option maxRecDepth 20000 in
set_option maxHeartbeats 4000000 in
theorem walk (K : Option Addr) (kcap : Nat) (ks : List Int) (A : Option Addr) (cap : Nat) (xs : List Nat) (w : World) (hK : Hid (RdL (layI .i64) w K ks)) (hkl : ks.length ≤ 9223372036854775807) (hR : Hid (Rd8 w A xs)) (hlen : xs.length ≤ cap) (hcap : cap ≤ 9223372036854775807) (hsm : xs.length ≤ 1048576) :
    Calls Try.prog 8 #[.slice K ks.length kcap, .slice A xs.length cap] w fun e w' => e = .returned (.bool true) ∧ Below w.heap.size w w' := by
  obtain ⟨l, er, hd⟩ : ∃ l er, Code.dec ks xs = (l, er) := ⟨_, _, rfl⟩
  obtain ⟨u, sz, eu, hu⟩ : ∃ u sz eu, Code.unf xs = (u, sz, eu) := ⟨_, _, _, rfl⟩
  have hll : l.length ≤ 1048576 := by
    by_cases he : er = 0
    · subst he
      have := (Code.dec_ok hR.out.lt hd).2
      omega
    · have := Code.dec_err ks xs (by rw [hd]; exact he)
      rw [hd] at this
      rw [show l = [] from this]
      simp
  have hd1 := fun W hW => decode_calls K kcap ks A cap xs W (Lib.hid (hK.out.bel hW)) hkl (Lib.hid (hR.out.bel hW)) hlen hcap (Lib.hid (by omega))
  have hd2 := fun W hW => rdecode_calls K kcap ks A cap xs W (Lib.hid (hK.out.bel hW)) hkl (Lib.hid (hR.out.bel hW)) hlen hcap (Lib.hid (by omega))
  have hu1 := fun W hW => unframe_calls A cap xs W (Lib.hid (hR.out.bel hW)) hlen hcap
  have hu2 := fun W hW => runframe_calls A cap xs W (Lib.hid (hR.out.bel hW)) hlen hcap (by omega)
  rw [hd] at hd1 hd2
  rw [hu] at hu1 hu2
  have HD1 := Lib.hid hd1
  have HD2 := Lib.hid hd2
  have HU1 := Lib.hid hu1
  have HU2 := Lib.hid hu2
  clear hd1 hd2 hu1 hu2 hd hu
  go_enter Try.func8, Try.ntmps8
  go_wp2_with fail
  refine (code_awake _).mono ?_
  rintro e w1 ⟨rfl, hb1⟩
  have HW1 := Lib.hid hb1
  clear hb1
  go_wp2_with fail
  refine (HD1.out w1 HW1.out).mono ?_
  rintro e w2 ⟨⟨v2, rfl, ho2⟩, hb2⟩
  have HW2 := Lib.hid (bel_tr HW1.out hb2)
  obtain ⟨A2, c2, rfl, _, _, hR2, _⟩ := ho2.form
  clear hb2 ho2
  go_wp2_with fail
  refine (HD2.out w2 HW2.out).mono ?_
  rintro e w3 ⟨⟨v3, rfl, ho3⟩, hb3⟩
  have HW3 := Lib.hid (bel_tr HW2.out hb3)
  have HR23 := Lib.hid (hR2.bel hb3)
  obtain ⟨A3, c3, rfl, _, _, hR3, _⟩ := ho3.form
  clear hb3 ho3 hR2
  go_wp2_with fail
  refine (HU1.out w3 HW3.out).mono ?_
  rintro e w4 ⟨⟨v4, rfl, ho4⟩, hb4⟩
  have HW4 := Lib.hid (bel_tr HW3.out hb4)
  have HR24 := Lib.hid (HR23.out.bel hb4)
  have HR34 := Lib.hid (hR3.bel hb4)
  obtain ⟨A4, c4, rfl, _, hR4, _⟩ := ho4.form
  clear hb4 ho4 hR3 HR23
  go_wp2_with fail
  refine (HU2.out w4 HW4.out).mono ?_
  rintro e w5 ⟨⟨v5, rfl, ho5⟩, hb5⟩
  have HW5 := Lib.hid (bel_tr HW4.out hb5)
  have HR25 := Lib.hid ((HR24.out.bel hb5).toF)
  have HR35 := Lib.hid ((HR34.out.bel hb5).toF)
  have HR45 := Lib.hid (hR4.bel hb5)
  obtain ⟨A5, c5, rfl, _, hR5, _⟩ := ho5.form
  have HR55 := Lib.hid hR5
  clear hb5 ho5 hR4 hR5 HR24 HR34
  go_wp2_with fail
  refine (rfields_calls A2 A3 c2 c3 l w5 HR25 HR35 (by omega)).mono ?_
  rintro e w6 ⟨rfl, hb6⟩
  have HW6 := Lib.hid (bel_tr HW5.out hb6)
  have hc4 := conv8 (HR45.out.bel hb6) c4
  have hc5 := conv8 (HR55.out.bel hb6) c5
  clear hb6
  go_wp2_with fail
  go_ret
  exact ⟨rfl, HW6.out⟩

set_option maxRecDepth 100000 in
theorem walks {H : Type} (enc : TypeId × Value → H) : WalksU enc Try.prog 8 Try.f8 := by
  intro W base args ds ps hval hA hwt hbulk
  rw [Try.params8] at hA hval hwt
  obtain ⟨v0, vs0, d0, ds0, p0, q0, hargs, rfl, rfl, h0, r0⟩ := trodAll_cons hA
  obtain ⟨v1, vs1, d1, ds1, p1, q1, rfl, rfl, rfl, h1, r1⟩ := trodAll_cons r0
  obtain ⟨rfl, rfl, rfl⟩ := trodAll_nil r1
  obtain rfl : args = #[v0, v1] := by cases args; simp_all
  obtain ⟨K, ks, kcap, rfl, c1, c2, hK⟩ := ints_arg (hval 0 36 v0 rfl rfl) h0 (weightsEach_at (i := 0) hwt rfl rfl)
  obtain ⟨B, xs, capB, rfl, c3, c4, hM⟩ := bytes_arg (hval 1 22 v1 rfl rfl) h1 (weightsEach_at (i := 1) hwt rfl rfl)
  have b1 := bulk_slice Try.underlying22 h1
  have b2 : Rows.uptoBulk d1 ≤ 1048576 := Nat.le_trans (bulk_part (by simp)) hbulk
  exact walk K kcap ks B capB xs W (Lib.hid hK) (by omega) (Lib.hid hM) c3 (by omega) (by omega)

set_option maxRecDepth 100000 in
theorem lifted (os : Os) (started : os.Started) (H : Type) (enc : TypeId × Value → H) (F : Stop.Interp) :
    ReturnsInHanded {} Try.checked os 8 .any ((Rows.OpenSpec.upto Rows.codeReadsSpec).pre6 enc Try.prog Try.f8 Rows.codeReadsUptoRow.domain false) (((Rows.OpenSpec.upto Rows.codeReadsSpec).at F).post enc Try.prog Try.f8 false true false false) :=
  frame_liftedU (C := Try.checked) own started (by kernel_rfl) Try.func8
    (OpenSpec.witness (enc := enc) (C := Try.checked) (s := Rows.OpenSpec.upto Rows.codeReadsSpec) (k := Rows.uptoSmall) rfl false ⟨#[], #[.slice none 0 0, .slice none 0 0], []⟩ 8 (by kernel_rfl) (by kernel_rfl) (by kernel_rfl)
      (x := ([.nil, .nil], [], [])) (by kernel_rfl) rfl (by kernel_rfl)) laidOut (by kernel_rfl) rfl (by rfl) Try.underlying4
    (fun ds h => match ds, h with | [d0, d1], _ => ⟨rfl, rfl, rfl⟩) (walks enc)

theorem over : Rows.codeReadsUptoRow.holds Try.pinned (Rows.OpenSpec.upto Rows.codeReadsSpec) :=
  OpenClaim.holds_of_cond 8 Try.f8 rfl rfl rfl rfl rfl rfl rfl ⟨rfl, rfl, rfl, rfl, rfl⟩ rfl rfl rfl rfl rfl (by kernel_rfl) Try.func8 (by kernel_rfl)
    (of_decide_eq_true (by kernel_rfl)) (by unfold Func.isWrapper; first | (rw [if_pos (by decide +kernel)]; kernel_rfl) | (rw [if_neg (by decide +kernel)]; exact ⟨rfl, rfl⟩))
    (fun os started H enc _ F => lifted os started H enc F)

/-- the statement -/
theorem proved : Rows.CodeReadsUptoSaid := over
end Go.Proofs.Ytkmhjfileiabeaa.lawCodeReads
