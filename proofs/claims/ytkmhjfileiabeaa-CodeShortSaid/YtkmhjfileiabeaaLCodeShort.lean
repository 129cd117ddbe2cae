/-
  CodeShort: a greater number has no fewer bytes than a lesser one; each has one for every seven bits.
  No condition.
-/
import Derived.Test.YtkmhjfileiabeaaCodeW
import Derived.Test.YtkmhjfileiabeaaFrame
import Derived.Test.YtkmhjfileiabeaaRows
namespace Go.Proofs.Ytkmhjfileiabeaa.lawCodeShort
open Go.RowKit Go.ChangeShapes Go.WideShapes Go.ChangeAt Go.Deep Go.Proofs.Ytkmhjfileiabeaa
set_option linter.unusedVariables false
set_option linter.unusedSimpArgs false

def one (a : Int) : List Fi := [(1, a, ⟨#[]⟩)]
theorem enc_pos {a : Int} (h : 0 ≤ a) : Code.enc (one a) = some (Code.vb a.toNat) := by
  unfold one
  rw [enc_one]
  unfold Code.enc1
  rw [if_pos ⟨rfl, h⟩]
theorem enc_neg {a : Int} (h : a < 0) : Code.enc (one a) = none := by
  unfold one
  rw [enc_one]
  unfold Code.enc1
  rw [if_neg (by simp; omega), if_neg (by simp), if_neg (by simp)]
theorem call1 (a : Int) (h0 : -9223372036854775808 ≤ a) (h1 : a ≤ 9223372036854775807) (w : World) :
    Calls Try.prog 26 #[.slice (some ⟨w.heap.size, 0, none⟩) 1 1] (w.alloc (.cells #[.int .i64 1, .int .i64 a, .string ⟨#[]⟩] 48)) fun e w' =>
      (∃ v, e = .returned v ∧ ResB w.heap.size (Code.enc (one a)) v w') ∧ Below w.heap.size w w' := by
  have hok : Code.ok (one a) := fun f hf => by simp [one] at hf; subst hf; exact ⟨h0, h1⟩
  have hR := rdL_new (L := layF) w 48 (one a) (by simp [one, maxLen]) #[.int .i64 1, .int .i64 a, .string ⟨#[]⟩] rfl
  refine (encode_calls _ 1 (one a) _ hR.toF (by simp [one]) hok (Code.small hok (by simp [one]))).mono ?_
  rintro e w' ⟨⟨v, rfl, hv⟩, hb⟩
  refine ⟨⟨v, rfl, ?_⟩, bel_al (Below.refl _ w) hb⟩
  rcases henc : Code.enc (one a) with _ | x
  · rw [henc] at hv; exact hv
  · rw [henc] at hv
    obtain ⟨u, e, ho⟩ := hv
    exact ⟨u, e, ho.base (by simp)⟩

set_option maxRecDepth 20000 in
set_option maxHeartbeats 4000000 in
theorem walk (a b : Int) (a0 : -9223372036854775808 ≤ a) (a1 : a ≤ 9223372036854775807) (b0 : -9223372036854775808 ≤ b) (b1 : b ≤ 9223372036854775807) (w : World) :
    Calls Try.prog 11 #[.int .i64 a, .int .i64 b] w fun e w' => e = .returned (.bool true) ∧ Below w.heap.size w w' := by
  go_enter Try.func11, Try.ntmps11
  go_wp2_with fail
  refine (code_awake _).mono ?_
  rintro e w1 ⟨rfl, hb1⟩
  have HB1 := Lib.hid hb1
  clear hb1
  go_wp2_with fail
  refine (call1 a a0 a1 w1).mono ?_
  rintro e w2 ⟨⟨v2, rfl, hv2⟩, hb2⟩
  have HB2 := Lib.hid (bel_tr HB1.out hb2)
  clear hb2
  by_cases ha : a < 0
  · rw [enc_neg ha] at hv2
    unfold ResB at hv2
    subst hv2
    go_wp2_with fail
    refine (call1 b b0 b1 w2).mono ?_
    rintro e w3 ⟨⟨v3, rfl, hv3⟩, hb3⟩
    have HB3 := Lib.hid (bel_tr HB2.out hb3)
    clear hb3
    by_cases hb : b < 0
    · rw [enc_neg hb] at hv3
      unfold ResB at hv3
      subst hv3
      go_wp2_with fail
      go_ret
      exact ⟨rfl, HB3.out⟩
    · rw [enc_pos (by omega)] at hv3
      obtain ⟨u3, rfl, ho3⟩ := hv3
      clear ho3
      go_wp2_with fail
      go_ret
      exact ⟨rfl, HB3.out⟩
  · rw [enc_pos (by omega)] at hv2
    obtain ⟨u2, rfl, ho2⟩ := hv2
    obtain ⟨A2, c2, rfl, _, _, _⟩ := ho2.form
    clear ho2
    go_wp2_with fail
    refine (call1 b b0 b1 w2).mono ?_
    rintro e w3 ⟨⟨v3, rfl, hv3⟩, hb3⟩
    have HB3 := Lib.hid (bel_tr HB2.out hb3)
    clear hb3
    by_cases hb : b < 0
    · rw [enc_neg hb] at hv3
      unfold ResB at hv3
      subst hv3
      go_wp2_with fail
      go_ret
      exact ⟨rfl, HB3.out⟩
    · rw [enc_pos (by omega)] at hv3
      obtain ⟨u3, rfl, ho3⟩ := hv3
      obtain ⟨A3, c3, rfl, _, _, _⟩ := ho3.form
      clear ho3
      obtain ⟨m, rfl⟩ : ∃ m : Nat, a = (m : Int) := ⟨a.toNat, by omega⟩
      obtain ⟨n, rfl⟩ : ∃ n : Nat, b = (n : Int) := ⟨b.toNat, by omega⟩
      simp only [Int.toNat_natCast]
      have HMO := Lib.hid (Code.vb_mono m n)
      have hst := Code.vb_len_step m
      have hlm : (Code.vb m).length ≤ 10 := Code.vb_len 9 m (by omega)
      have hln : (Code.vb n).length ≤ 10 := Code.vb_len 9 n (by omega)
      generalize (Code.vb m).length = lm at *
      generalize (Code.vb n).length = ln at *
      have HST := Lib.hid hst
      clear hst
      go_wp2_with fail
      go_loopg [9, 10] (m / 128) (fun g v9 v10 W => W = w3 ∧ v10 = .int .i64 g ∧ ∃ c : Nat, v9 = .int .i64 c ∧ c ≤ lm ∧ Hid (c + (if g = 0 then 0 else (Code.vb g).length) = lm))
      case atStart => exact ⟨rfl, by simp, 1, rfl, by have := HST.out; omega, Lib.hid HST.out.symm⟩
      case round =>
        obtain ⟨rfl, rfl, c, rfl, hc, HC⟩ := hrel
        by_cases hg : gk = 0
        · subst hg
          have hcl : c = lm := by have := HC.out; simpa using this
          subst hcl
          by_cases hmn : m ≤ n
          · have hle : (c : Int) ≤ (ln : Int) := by have := HMO.out hmn; omega
            have hgt : ¬ (n : Int) < (m : Int) := by omega
            clear HC
            go_wp2_with fail
            go_ret
            exact ⟨rfl, HB3.out⟩
          · have hgt : (n : Int) < (m : Int) := by omega
            clear HC
            go_wp2_with fail
            go_ret
            exact ⟨rfl, HB3.out⟩
        · have hgi : (0 : Int) < (gk : Int) := by omega
          have hs2 := Code.vb_len_step gk
          have hC := HC.out
          rw [if_neg hg] at hC
          have hc2 : c + 1 ≤ lm := by split at hs2 <;> omega
          have hC2 : Hid (c + 1 + (if gk / 128 = 0 then 0 else (Code.vb (gk / 128)).length) = lm) := Lib.hid (by omega)
          clear hs2 hC HC
          go_wp2_with fail
          go_roundg (gk / 128)
          case rel => exact ⟨rfl, by simp, c + 1, by go_num, hc2, hC2⟩
          case measure => omega

set_option maxRecDepth 100000 in
theorem walks {H : Type} (enc : TypeId × Value → H) : Walks enc Try.prog 11 Try.f11 := by
  intro W base args ds ps hval hA hwt
  rw [Try.params11] at hA hval hwt
  obtain ⟨v0, vs0, d0, ds0, p0, q0, hargs, rfl, rfl, h0, r0⟩ := trodAll_cons hA
  obtain ⟨v1, vs1, d1, ds1, p1, q1, rfl, rfl, rfl, h1, r1⟩ := trodAll_cons r0
  obtain ⟨rfl, rfl, rfl⟩ := trodAll_nil r1
  obtain rfl : args = #[v0, v1] := by cases args; simp_all
  obtain ⟨a, rfl, rfl, rfl, w0⟩ := open_int Try.underlying2 (hval 0 2 v0 rfl rfl) h0
  obtain ⟨b, rfl, rfl, rfl, w1⟩ := open_int Try.underlying2 (hval 1 2 v1 rfl rfl) h1
  simp [Lit.wf, IntKind.min, IntKind.max, IntKind.signed, IntKind.bits] at w0 w1
  exact walk a b (by omega) (by omega) (by omega) (by omega) W

set_option maxRecDepth 100000 in
theorem lifted (os : Os) (started : os.Started) (H : Type) (enc : TypeId × Value → H) :
    ReturnsInHanded {} Try.checked os 11 .any (Rows.codeShortSpec.pre6 enc Try.prog Try.f11 Rows.codeShortRow.domain false) (Rows.codeShortSpec.post enc Try.prog Try.f11 false true false false) :=
  frame_lifted (C := Try.checked) own started (by kernel_rfl) Try.func11
    (ChangeSpec.witness6 (enc := enc) (C := Try.checked) false ⟨#[], #[.int .i64 0, .int .i64 0], []⟩ 8 (by kernel_rfl) (by kernel_rfl) (by kernel_rfl) (by kernel_rfl)) laidOut (by kernel_rfl) rfl (by rfl) Try.underlying4
    (fun ds h => match ds, h with | [d0, d1], _ => ⟨rfl, rfl, rfl⟩) (walks enc)

theorem over : Rows.codeShortRow.holds Try.pinned (OpenSpec.ofChange Rows.codeShortSpec) :=
  OpenClaim.holds_of_wide 11 Try.f11 rfl rfl rfl rfl rfl rfl rfl ⟨rfl, rfl, rfl, rfl, rfl⟩ rfl rfl rfl rfl rfl (by kernel_rfl) Try.func11 (by kernel_rfl)
    (of_decide_eq_true (by kernel_rfl)) (by unfold Func.isWrapper; first | (rw [if_pos (by decide +kernel)]; kernel_rfl) | (rw [if_neg (by decide +kernel)]; exact ⟨rfl, rfl⟩))
    (fun os started H enc _ => lifted os started H enc)

/-- the statement -/
theorem proved : Rows.CodeShortSaid := over
end Go.Proofs.Ytkmhjfileiabeaa.lawCodeShort
