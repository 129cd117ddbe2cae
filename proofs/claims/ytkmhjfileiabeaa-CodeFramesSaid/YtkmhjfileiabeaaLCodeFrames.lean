/-
  CodeFrames: what is framed is unframed, whatever stands behind; a frame that is cut, or of which a byte is turned, isn't taken for one of as many bytes.
  No condition.
-/
import Derived.Test.YtkmhjfileiabeaaCodeW
import Derived.Test.YtkmhjfileiabeaaFrame
import Derived.Test.YtkmhjfileiabeaaRows
namespace Go.Proofs.Ytkmhjfileiabeaa.lawCodeFrames
open Go.RowKit Go.ChangeShapes Go.WideShapes Go.ChangeAt Go.Deep Go.Proofs.Ytkmhjfileiabeaa
set_option linter.unusedVariables false
set_option linter.unusedSimpArgs false

theorem capm {w : World} {base g n cap : Nat} {xs : List Nat} (h : Own8 w base (.slice (some ⟨g, 0, none⟩) n cap) xs) : cap ≤ 9223372036854775807 := by
  rcases h.1.2 with ⟨e, _⟩ | ⟨g', cap', cur, e, _, _, _, h4, _⟩
  · cases e
  · injection e with _ _ e
    rw [e]
    exact h4
theorem u64_range (x : Int) : 0 ≤ IntKind.u64.wrap x ∧ IntKind.u64.wrap x < 18446744073709551616 := by
  rw [IntKind.wrap_u64]
  omega
theorem frm_len (xs : List Nat) (h : xs.length ≤ 65536) : (Code.frm xs).length ≤ 65543 ∧ 0 < (Code.frm xs).length := by
  have := Code.vb_len 2 xs.length (by omega)
  simp [Code.frm, Code.le4]
  omega
theorem frm_lt (xs : List Nat) (h : ∀ x ∈ xs, x < 256) : ∀ x ∈ Code.frm xs, x < 256 := fun x hx => by
  rcases List.mem_append.1 hx with hx | hx
  · rcases List.mem_append.1 hx with hx | hx
    · exact Code.vb_lt _ x hx
    · exact h x hx
  · exact le4_lt _ x hx

theorem turn_at (x : Int) (n : Nat) (h0 : 0 < n) (h1 : n ≤ 65543) : ∃ k : Nat, wrap64 ((IntKind.u64.wrap x).tmod (n : Int)) = (k : Int) ∧ k < n := by
  have hr := u64_range x
  have e := Int.tmod_eq_emod_of_nonneg hr.1 (b := (n : Int))
  have h2 := Int.emod_nonneg (IntKind.u64.wrap x) (show (n : Int) ≠ 0 by omega)
  have h3 := Int.emod_lt_of_pos (IntKind.u64.wrap x) (show (0 : Int) < (n : Int) by omega)
  refine ⟨(IntKind.u64.wrap x % (n : Int)).toNat, ?_, by omega⟩
  rw [e, IntWalk.wrap64_in _ (by omega)]
  omega

set_option maxRecDepth 20000 in
set_option maxHeartbeats 4000000 in
theorem walk (A : Option Addr) (cap : Nat) (xs : List Nat) (B : Option Addr) (capB : Nat) (ms : List Nat) (at_ : Int) (t : Nat) (w : World) (hR : Hid (Rd8 w A xs)) (hlen : xs.length ≤ 9223372036854775807) (hM : Hid (Rd8 w B ms)) (hml : ms.length ≤ 9223372036854775807) (ht : t < 256) :
    Calls Try.prog 13 #[.slice A xs.length cap, .slice B ms.length capB, .int .i64 at_, .int .u8 t] w fun e w' => e = .returned (.bool true) ∧ Below w.heap.size w w' := by
  by_cases hm4 : ms.length ≤ 4096
  rotate_left
  · have hmi : (4096 : Int) < (ms.length : Int) := by omega
    go_enter Try.func13, Try.ntmps13
    go_wp2_with fail
    refine (code_awake _).mono ?_
    rintro e w1 ⟨rfl, hb1⟩
    have HB1 := Lib.hid hb1
    clear hb1
    go_wp2_with fail
    go_ret
    exact ⟨rfl, HB1.out⟩
  have hmi : ¬ (4096 : Int) < (ms.length : Int) := by omega
  by_cases hx6 : xs.length ≤ 65536
  rotate_left
  · have hxi : (65536 : Int) < (xs.length : Int) := by omega
    go_enter Try.func13, Try.ntmps13
    go_wp2_with fail
    refine (code_awake _).mono ?_
    rintro e w1 ⟨rfl, hb1⟩
    have HB1 := Lib.hid hb1
    clear hb1
    go_wp2_with fail
    refine (frame_calls A cap xs w1 (Lib.hid (hR.out.bel HB1.out)) hlen).mono ?_
    rintro e w2 ⟨⟨v2, rfl, hv2⟩, hb2⟩
    rw [if_neg hx6] at hv2
    unfold ResB at hv2
    subst hv2
    have HB2 := Lib.hid (bel_tr HB1.out hb2)
    clear hb2
    go_wp2_with fail
    go_ret
    exact ⟨rfl, HB2.out⟩
  obtain ⟨hF1, hF0⟩ := frm_len xs hx6
  have HUA := Lib.hid (Code.unf_frm xs ms hR.out.lt hx6)
  have HUC := Lib.hid (fun k => Code.unf_cut xs k hx6)
  have HUT := Lib.hid (fun k => Code.unf_turn xs k t hR.out.lt hx6)
  have HFL := Lib.hid (frm_lt xs hR.out.lt)
  have HX6 := Lib.hid hx6
  have HM4 := Lib.hid hm4
  go_enter Try.func13, Try.ntmps13
  go_wp2_with fail
  refine (code_awake _).mono ?_
  rintro e w1 ⟨rfl, hb1⟩
  have HB1 := Lib.hid hb1
  clear hb1
  go_wp2_with fail
  refine (frame_calls A cap xs w1 (Lib.hid (hR.out.bel HB1.out)) hlen).mono ?_
  rintro e w2 ⟨⟨v2, rfl, hv2⟩, hb2⟩
  rw [if_pos hx6] at hv2
  obtain ⟨u2, rfl, ho2⟩ := hv2
  have HB2 := Lib.hid (bel_tr HB1.out hb2)
  generalize Code.frm xs = fs at *
  clear hb2 hx6 hm4
  obtain ⟨g, c2, rfl, hg, hc2⟩ := ho2.block hF0
  have hcm2 := capm ho2
  have HO2 := Lib.hid (ho2.base HB1.out.size)
  have HR2 : Hid (Rd8 w2 (some ⟨g, 0, none⟩) fs) := Lib.hid (by obtain ⟨A', c', e, _, h, _⟩ := ho2.form; injection e with e; subst e; exact h)
  have hbn := Lib.hid (bel_new (Below.refl w2.heap.size w2) (.cells #[] 5))
  have HLIT := Lib.hid (Own8.lit w2 w2.heap.size (Nat.le_refl _) [] (by simp) (by simp) #[] rfl)
  clear ho2 hg
  go_wp2_with (first
    | (at_builtin
       refine wpList_app8 rfl (.tmp 37) (.tmp 38) rfl w2.heap.size _ [] rfl HLIT.out (some ⟨g, 0, none⟩) c2 fs rfl (HR2.out.bel hbn.out) (by simp; omega) (by simp) ?_
       intro v3 w3 ho3 hg3 _
       have hb3 := Lib.hid (Own8.grown HLIT.out hbn.out (by simp) hg3)
       rw [List.nil_append] at ho3
       clear hg3)
    | (at_builtin
       refine wpList_app8 rfl (.tmp 40) (.tmp 41) rfl w2.heap.size _ fs rfl ho3 B capB ms rfl ((hM.out.bel HB2.out).bel hb3.out) (by have := HM4.out; omega) hb3.out.size ?_
       intro v4 w4 ho4 hg4 _
       have hb4 := Lib.hid (Own8.grown ho3 hb3.out hb3.out.size hg4)
       clear hg4 ho3))
  have hal : 0 < (fs ++ ms).length := by rw [List.length_append]; omega
  obtain ⟨g4, c4, rfl, hg4, hc4⟩ := ho4.block hal
  have hcm4 := capm ho4
  have HR4 : Hid (Rd8 w4 (some ⟨g4, 0, none⟩) (fs ++ ms)) := Lib.hid (by obtain ⟨A', c', e, _, h, _⟩ := ho4.form; injection e with e; subst e; exact h)
  have HB4 := Lib.hid (bel_tr HB2.out hb4.out)
  have HR24 := Lib.hid (HR2.out.bel hb4.out)
  have hbk : g < w2.heap.size := (HO2.out.1.lt g rfl).2
  generalize hall : fs ++ ms = all at *
  clear ho4 hg4
  go_wp2_with fail
  refine (unframe_calls (some ⟨g4, 0, none⟩) c4 all w4 HR4 hc4 hcm4).mono ?_
  rintro e w5 ⟨⟨v5, rfl, ho5⟩, hb5⟩
  rw [HUA.out] at ho5 ⊢
  obtain ⟨A5, c5, rfl, _, hR5, _⟩ := ho5.form
  have HB5 := Lib.hid (bel_tr HB4.out hb5)
  have HR25 := Lib.hid (HR24.out.bel hb5)
  have hcv1 := conv8 hR5 c5
  have hcv2 := conv8 (hR.out.bel HB5.out) cap
  have hbg5 : g < w5.heap.size := by have := hb4.out.size; have := hb5.size; omega
  clear ho5 hb5 hR5
  obtain ⟨k, hk, hkl⟩ := turn_at at_ fs.length hF0 (by omega)
  have hkc : (k : Int) ≤ (c2 : Int) := by omega
  have hk0 : (0 : Int) ≤ (k : Int) := by omega
  have HKL := Lib.hid hkl
  have hkt : (fs.take k).length = k := by rw [List.length_take]; omega
  have HKT := Lib.hid hkt
  clear hkt
  go_wp2_with fail
  have hcut := unframe_calls (some ⟨g, 0, none⟩) c2 (fs.take k) w5 (Lib.hid (HR25.out.take k)) (by rw [HKT.out]; omega) hcm2
  rw [HUC.out k HKL.out, HKT.out] at hcut
  refine hcut.mono ?_
  rintro e w6 ⟨⟨v6, rfl, ho6⟩, hb6⟩
  have HB6 := Lib.hid (bel_tr HB5.out hb6)
  have HR26 := Lib.hid (HR25.out.bel hb6)
  have hbn6 := Lib.hid (bel_new (Below.refl w6.heap.size w6) (.cells #[] 5))
  have HLIT6 := Lib.hid (Own8.lit w6 w6.heap.size (Nat.le_refl _) [] (by simp) (by simp) #[] rfl)
  clear ho6 hb6 hcut hcv1 hcv2
  go_wp2_with (first
    | (at_builtin
       refine wpList_app8 rfl (.tmp 81) (.tmp 82) rfl w6.heap.size _ [] rfl HLIT6.out (some ⟨g, 0, none⟩) c2 fs rfl (HR26.out.bel hbn6.out) (by simp; omega) (by simp) ?_
       intro v7 w7 ho7 hg7 _
       have hb7 := Lib.hid (Own8.grown HLIT6.out hbn6.out (by simp) hg7)
       rw [List.nil_append] at ho7
       obtain ⟨g7, c7, rfl, hgg7, hc7⟩ := ho7.block hF0
       obtain ⟨z1, z2, z3⟩ := ho7.at_ k HKL.out
       obtain ⟨z, hz⟩ : ∃ z, z = fs.getD k 0 := ⟨_, rfl⟩
       rw [← hz] at z1 z3
       have hx7 := u8_xor_nat z t z3 ht
       have hkl' : (k : Int) < (fs.length : Int) := by have := HKL.out; omega
       have HO7 := Lib.hid ho7
       have HX7 := Lib.hid hx7
       have HZ := Lib.hid hz
       clear hg7 ho7 hx7 hz))
  rw [HX7.out]
  have hzt : z ^^^ t < 256 := Nat.xor_lt_two_pow (n := 8) z3 ht
  have HO8 := Lib.hid (HO7.out.put k (z ^^^ t) hzt)
  have HB7 := Lib.hid (bel_set (bel_tr HB6.out hb7.out) (g := g7) (by have := HB6.out.size; omega) k (.int .u8 ((z ^^^ t : Nat) : Int)))
  have hcm7 := capm HO7.out
  generalize w7.setCell ⟨g7, k, none⟩ (.int .u8 ((z ^^^ t : Nat) : Int)) = w8 at *
  have hut := HUT.out k HKL.out ht
  rw [← HZ.out] at hut
  have HUT2 := Lib.hid hut
  clear hut
  have hsl : (fs.set k (z ^^^ t)).length = fs.length := List.length_set
  have HR8 : Hid (Rd8 w8 (some ⟨g7, 0, none⟩) (fs.set k (z ^^^ t))) := Lib.hid (by obtain ⟨A', c', e, _, h, _⟩ := HO8.out.form; injection e with e; subst e; exact h)
  generalize fs.set k (z ^^^ t) = bad at *
  have HSL := Lib.hid hsl
  clear hsl z1 z2 z3 hzt
  have hbd := unframe_calls (some ⟨g7, 0, none⟩) c7 bad w8 HR8 (by rw [HSL.out]; omega) hcm7
  rw [HSL.out] at hbd
  obtain ⟨y, m, h, hu⟩ : ∃ y m h, Code.unf bad = (y, m, h) := ⟨_, _, _, rfl⟩
  have hut2 := HUT2.out
  rw [hu] at hbd hut2
  simp only at hut2
  refine hbd.mono ?_
  rintro e w9 ⟨⟨v9, rfl, ho9⟩, hb9⟩
  have HB9 := Lib.hid (bel_tr HB7.out hb9)
  obtain ⟨A9, c9, rfl, _, _, _⟩ := ho9.form
  clear hb9 hbd ho9 hu
  simp only
  by_cases ht0 : t = 0
  · subst ht0
    clear hut2
    go_wp2_with fail
    go_ret
    exact ⟨rfl, HB9.out⟩
  · have ht0i : ((t : Int) == 0) = false := by rw [beq_eq_false_iff_ne]; omega
    by_cases hh : h = 0
    · subst hh
      obtain ⟨q1, q2⟩ := (hut2 ht0).resolve_left (by simp)
      have q1i : ((m : Int) != (fs.length : Int)) = true := by rw [bne_iff_ne]; omega
      have q2i : ((y.length : Int) != (xs.length : Int)) = true := by rw [bne_iff_ne]; omega
      clear hut2
      go_wp2_with fail
      go_ret
      exact ⟨rfl, HB9.out⟩
    · have hhi : ((h : Int) != 0) = true := by rw [bne_iff_ne]; omega
      clear hut2
      go_wp2_with fail
      go_ret
      exact ⟨rfl, HB9.out⟩

set_option maxRecDepth 100000 in
theorem walks {H : Type} (enc : TypeId × Value → H) : Walks enc Try.prog 13 Try.f13 := by
  intro W base args ds ps hval hA hwt
  rw [Try.params13] at hA hval hwt
  obtain ⟨v0, vs0, d0, ds0, p0, q0, hargs, rfl, rfl, h0, r0⟩ := trodAll_cons hA
  obtain ⟨v1, vs1, d1, ds1, p1, q1, rfl, rfl, rfl, h1, r1⟩ := trodAll_cons r0
  obtain ⟨v2, vs2, d2, ds2, p2, q2, rfl, rfl, rfl, h2, r2⟩ := trodAll_cons r1
  obtain ⟨v3, vs3, d3, ds3, p3, q3, rfl, rfl, rfl, h3, r3⟩ := trodAll_cons r2
  obtain ⟨rfl, rfl, rfl⟩ := trodAll_nil r3
  obtain rfl : args = #[v0, v1, v2, v3] := by cases args; simp_all
  obtain ⟨A, xs, cap, rfl, c1, c2, hR⟩ := bytes_arg (hval 0 22 v0 rfl rfl) h0 (weightsEach_at (i := 0) hwt rfl rfl)
  obtain ⟨B, ms, capB, rfl, c3, c4, hM⟩ := bytes_arg (hval 1 22 v1 rfl rfl) h1 (weightsEach_at (i := 1) hwt rfl rfl)
  obtain ⟨a2, rfl, rfl, rfl, w2⟩ := open_int Try.underlying3 (hval 2 3 v2 rfl rfl) h2
  obtain ⟨a3, rfl, rfl, rfl, w3⟩ := open_int Try.underlying5 (hval 3 5 v3 rfl rfl) h3
  simp [Lit.wf, IntKind.min, IntKind.max, IntKind.signed, IntKind.bits] at w3
  obtain ⟨t, rfl⟩ := Int.eq_ofNat_of_zero_le (by omega : 0 ≤ a3)
  exact walk A cap xs B capB ms a2 t W (Lib.hid hR) (by omega) (Lib.hid hM) (by omega) (by omega)

set_option maxRecDepth 100000 in
theorem lifted (os : Os) (started : os.Started) (H : Type) (enc : TypeId × Value → H) :
    ReturnsInHanded {} Try.checked os 13 .any (Rows.codeFramesSpec.pre6 enc Try.prog Try.f13 Rows.codeFramesRow.domain false) (Rows.codeFramesSpec.post enc Try.prog Try.f13 false true false false) :=
  frame_lifted (C := Try.checked) own started (by kernel_rfl) Try.func13
    (ChangeSpec.witness6 (enc := enc) (C := Try.checked) false ⟨#[], #[.slice none 0 0, .slice none 0 0, .int .i64 0, .int .u8 0], []⟩ 8 (by kernel_rfl) (by kernel_rfl) (by kernel_rfl) (by kernel_rfl)) laidOut (by kernel_rfl) rfl (by rfl) Try.underlying4
    (fun ds h => match ds, h with | [d0, d1, d2, d3], _ => ⟨rfl, rfl, rfl⟩) (walks enc)

theorem over : Rows.codeFramesRow.holds Try.pinned (OpenSpec.ofChange Rows.codeFramesSpec) :=
  OpenClaim.holds_of_wide 13 Try.f13 rfl rfl rfl rfl rfl rfl rfl ⟨rfl, rfl, rfl, rfl, rfl⟩ rfl rfl rfl rfl rfl (by kernel_rfl) Try.func13 (by kernel_rfl)
    (of_decide_eq_true (by kernel_rfl)) (by unfold Func.isWrapper; first | (rw [if_pos (by decide +kernel)]; kernel_rfl) | (rw [if_neg (by decide +kernel)]; exact ⟨rfl, rfl⟩))
    (fun os started H enc _ => lifted os started H enc)

/-- the statement -/
theorem proved : Rows.CodeFramesSaid := over
end Go.Proofs.Ytkmhjfileiabeaa.lawCodeFrames
