/-
  CodeWrites (the second form): the bytes of any fields, and the frame around any bytes, are those of the document.
  Condition: the bulk of what is read is at most 1048576.
-/
import Derived.Test.YtkmhjfileiabeaaCodeT
import Derived.Test.YtkmhjfileiabeaaFrameU
namespace Go.Proofs.Ytkmhjfileiabeaa.lawCodeWrites
open Go.RowKit Go.ChangeShapes Go.WideShapes Go.ChangeAt Go.Deep Go.Proofs.Ytkmhjfileiabeaa
set_option linter.unusedVariables false
set_option linter.unusedSimpArgs false

theorem res_pair {base : Nat} {o : Option (List Nat)} {v : Value} {w : World} (h : ResB base o v w) : ∃ u e : Value, v = .tuple #[u, e] := by
  cases o with
  | none => exact ⟨_, _, h⟩
  | some x => obtain ⟨u, h, _⟩ := h; exact ⟨_, _, h⟩
/-- a result, read: an error and no bytes, or bytes -/
theorem res_read {base : Nat} {o : Option (List Nat)} {u e : Value} {w : World} (h : ResB base o (.tuple #[u, e]) w) : ∃ (n : Nat) (x : List Nat) (A : Option Addr) (c : Nat), e = .int .i64 n ∧ u = .slice A x.length c ∧ Rd8 w A x ∧ Hid (n = (if o.isSome then 0 else 1) ∧ x = o.getD []) := by
  cases o with
  | none =>
    have h' : Value.tuple #[u, e] = .tuple #[.slice none 0 0, .int .i64 1] := h
    injection h' with h'
    obtain ⟨rfl, rfl⟩ : u = _ ∧ e = _ := by simpa using h'
    exact ⟨1, [], none, 0, rfl, rfl, fun i hi => absurd hi (Nat.not_lt_zero _), Lib.hid ⟨rfl, rfl⟩⟩
  | some x =>
    obtain ⟨u', h', ho⟩ := h
    injection h' with h'
    obtain ⟨rfl, rfl⟩ : u = u' ∧ e = _ := by simpa using h'
    obtain ⟨A, c, rfl, _, hR, _⟩ := ho.form
    exact ⟨0, x, A, c, rfl, rfl, hR, Lib.hid ⟨rfl, rfl⟩⟩

set_option maxRecDepth 20000 in
set_option maxHeartbeats 4000000 in
theorem walk (A : Option Addr) (cap : Nat) (a : List Fi) (B : Option Addr) (capB : Nat) (xs : List Nat) (w : World) (hR : Hid (RdF w A a)) (hla : a.length ≤ 1048576) (hM : Hid (Rd8 w B xs)) (hlb : xs.length ≤ 9223372036854775807) (hoa : Hid (Code.ok a)) :
    Calls Try.prog 12 #[.slice A a.length cap, .slice B xs.length capB] w fun e w' => e = .returned (.bool true) ∧ Below w.heap.size w w' := by
  have HSA := Lib.hid (Code.small hoa.out hla)
  go_enter Try.func12, Try.ntmps12
  go_wp2_with fail
  refine (code_awake _).mono ?_
  rintro e w1 ⟨rfl, hb1⟩
  have HW1 := Lib.hid hb1
  clear hb1
  go_wp2_with fail
  refine (encode_calls A cap a w1 (hR.out.bel HW1.out) (by omega) hoa.out HSA.out).mono ?_
  rintro e w2 ⟨⟨v2, rfl, hv2⟩, hb2⟩
  have HW2 := Lib.hid (bel_tr HW1.out hb2)
  obtain ⟨u2, e2, rfl⟩ := res_pair hv2
  obtain ⟨n2, x, A2, c2, rfl, rfl, hR2, hn2⟩ := res_read hv2
  clear hb2 hv2
  go_wp2_with fail
  refine (rencode_calls A cap a w2 (hR.out.bel HW2.out) (by omega) hoa.out HSA.out).mono ?_
  rintro e w3 ⟨⟨v3, rfl, hv3⟩, hb3⟩
  have HW3 := Lib.hid (bel_tr HW2.out hb3)
  have HR23 := Lib.hid (hR2.bel hb3)
  obtain ⟨u3, e3, rfl⟩ := res_pair hv3
  obtain ⟨n3, x3, A3, c3, rfl, rfl, hR3, hn3⟩ := res_read hv3
  obtain rfl : n2 = n3 := hn2.out.1.trans hn3.out.1.symm
  obtain rfl : x = x3 := hn2.out.2.trans hn3.out.2.symm
  clear hb3 hv3 hR2 hn2 hn3
  go_wp2_with fail
  refine (frame_calls B capB xs w3 (Lib.hid (hM.out.bel HW3.out)) hlb).mono ?_
  rintro e w4 ⟨⟨v4, rfl, hv4⟩, hb4⟩
  have HW4 := Lib.hid (bel_tr HW3.out hb4)
  have HR24 := Lib.hid (HR23.out.bel hb4)
  have HR34 := Lib.hid (hR3.bel hb4)
  obtain ⟨u4, e4, rfl⟩ := res_pair hv4
  obtain ⟨n4, y, A4, c4, rfl, rfl, hR4, hn4⟩ := res_read hv4
  clear hb4 hv4 hR3 HR23
  go_wp2_with fail
  refine (rframe_calls B capB xs w4 (Lib.hid (hM.out.bel HW4.out)) hlb).mono ?_
  rintro e w5 ⟨⟨v5, rfl, hv5⟩, hb5⟩
  have HW5 := Lib.hid (bel_tr HW4.out hb5)
  have hc2 := conv8 (HR24.out.bel hb5) c2
  have hc3 := conv8 (HR34.out.bel hb5) c3
  have hc4 := conv8 (hR4.bel hb5) c4
  obtain ⟨u5, e5, rfl⟩ := res_pair hv5
  obtain ⟨n5, y5, A5, c5, rfl, rfl, hR5, hn5⟩ := res_read hv5
  have hc5 := conv8 hR5 c5
  obtain rfl : n4 = n5 := hn4.out.1.trans hn5.out.1.symm
  obtain rfl : y = y5 := hn4.out.2.trans hn5.out.2.symm
  clear hb5 hv5 hR4 hn4 hn5 hR5 HR24 HR34
  go_wp2_with fail
  go_ret
  exact ⟨rfl, HW5.out⟩

set_option maxRecDepth 100000 in
theorem walks {H : Type} (enc : TypeId × Value → H) : WalksU enc Try.prog 12 Try.f12 := by
  intro W base args ds ps hval hA hwt hbulk
  rw [Try.params12] at hA hval hwt
  obtain ⟨v0, vs0, d0, ds0, p0, q0, hargs, rfl, rfl, h0, r0⟩ := trodAll_cons hA
  obtain ⟨v1, vs1, d1, ds1, p1, q1, rfl, rfl, rfl, h1, r1⟩ := trodAll_cons r0
  obtain ⟨rfl, rfl, rfl⟩ := trodAll_nil r1
  obtain rfl : args = #[v0, v1] := by cases args; simp_all
  obtain ⟨A, a, cap, rfl, c1, c2, hR, hoa⟩ := fields_arg (hval 0 37 v0 rfl rfl) h0 (weightsEach_at (i := 0) hwt rfl rfl)
  obtain ⟨B, xs, capB, rfl, c3, c4, hM⟩ := bytes_arg (hval 1 22 v1 rfl rfl) h1 (weightsEach_at (i := 1) hwt rfl rfl)
  have b0 := bulk_slice Try.underlying37 h0
  have b1 : Rows.uptoBulk d0 ≤ 1048576 := Nat.le_trans (bulk_part (by simp)) hbulk
  exact walk A cap a B capB xs W (Lib.hid hR) (by omega) (Lib.hid hM) (by omega) (Lib.hid hoa)

set_option maxRecDepth 100000 in
theorem lifted (os : Os) (started : os.Started) (H : Type) (enc : TypeId × Value → H) (F : Stop.Interp) :
    ReturnsInHanded {} Try.checked os 12 .any ((Rows.OpenSpec.upto Rows.codeWritesSpec).pre6 enc Try.prog Try.f12 Rows.codeWritesUptoRow.domain false) (((Rows.OpenSpec.upto Rows.codeWritesSpec).at F).post enc Try.prog Try.f12 false true false false) :=
  frame_liftedU (C := Try.checked) own started (by kernel_rfl) Try.func12
    (OpenSpec.witness (enc := enc) (C := Try.checked) (s := Rows.OpenSpec.upto Rows.codeWritesSpec) (k := Rows.uptoSmall) rfl false ⟨#[], #[.slice none 0 0, .slice none 0 0], []⟩ 8 (by kernel_rfl) (by kernel_rfl) (by kernel_rfl)
      (x := ([.nil, .nil], [], [])) (by kernel_rfl) rfl (by kernel_rfl)) laidOut (by kernel_rfl) rfl (by rfl) Try.underlying4
    (fun ds h => match ds, h with | [d0, d1], _ => ⟨rfl, rfl, rfl⟩) (walks enc)

theorem over : Rows.codeWritesUptoRow.holds Try.pinned (Rows.OpenSpec.upto Rows.codeWritesSpec) :=
  OpenClaim.holds_of_cond 12 Try.f12 rfl rfl rfl rfl rfl rfl rfl ⟨rfl, rfl, rfl, rfl, rfl⟩ rfl rfl rfl rfl rfl (by kernel_rfl) Try.func12 (by kernel_rfl)
    (of_decide_eq_true (by kernel_rfl)) (by unfold Func.isWrapper; first | (rw [if_pos (by decide +kernel)]; kernel_rfl) | (rw [if_neg (by decide +kernel)]; exact ⟨rfl, rfl⟩))
    (fun os started H enc _ F => lifted os started H enc F)

/-- the statement -/
theorem proved : Rows.CodeWritesUptoSaid := over
end Go.Proofs.Ytkmhjfileiabeaa.lawCodeWrites
