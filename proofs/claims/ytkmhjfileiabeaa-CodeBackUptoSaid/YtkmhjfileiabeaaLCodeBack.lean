/-
  CodeBack (the second form): fields that are written are read as they were; bytes that are read as some kinds are just the bytes that these fields are written as.
  Condition: the bulk of what is read is at most 1048576.
-/
import Derived.Test.YtkmhjfileiabeaaCodeT
import Derived.Test.YtkmhjfileiabeaaFrameU
namespace Go.Proofs.Ytkmhjfileiabeaa.lawCodeBack
open Go.RowKit Go.ChangeShapes Go.WideShapes Go.ChangeAt Go.Deep Go.Proofs.Ytkmhjfileiabeaa
set_option linter.unusedVariables false
set_option linter.unusedSimpArgs false

theorem infoI : (Try.prog.info? 3).map (fun i => (i.zero, i.size, i.bytes)) = some (some (.int .i64 0), 1, 8) := by kernel_rfl
theorem map_step (a : List Fi) (k : Nat) (h : k < a.length) : (a.take k).map (fun f => f.1) ++ [(a.getD k default).1] = (a.take (k + 1)).map (fun f => f.1) := by
  rw [List.take_succ_eq_append_getElem h, List.map_append]
  simp [List.getD, h]
theorem nm_at (a : List Fi) (k : Nat) (h : k < a.length) : (a.map Code.nm).getD k default = Code.nm (a.getD k default) := by
  simp [List.getD, h]
theorem rdI_one (w : World) (x : Int) : RdL (layI .i64) (w.alloc (.cells #[.int .i64 x] 3)) (some ⟨w.heap.size, 0, none⟩) [x] := rdL_new w _ [x] (by simp [maxLen]) _ rfl

set_option maxRecDepth 20000 in
set_option maxHeartbeats 4000000 in
theorem walk (A : Option Addr) (cap : Nat) (a : List Fi) (K : Option Addr) (kcap : Nat) (ks : List Int) (B : Option Addr) (cap2 : Nat) (xs : List Nat) (w : World) (hR : Hid (RdF w A a)) (hla : a.length ≤ 1048576) (hoa : Hid (Code.ok a)) (hK : Hid (RdL (layI .i64) w K ks)) (hkl : ks.length ≤ 9223372036854775807) (hM : Hid (Rd8 w B xs)) (hlen : xs.length ≤ cap2) (hcap : cap2 ≤ 9223372036854775807) (hsm : xs.length ≤ 1048576) :
    Calls Try.prog 9 #[.slice A a.length cap, .slice K ks.length kcap, .slice B xs.length cap2] w fun e w' => e = .returned (.bool true) ∧ Below w.heap.size w w' := by
  obtain ⟨l, er, hd⟩ : ∃ l er, Code.dec ks xs = (l, er) := ⟨_, _, rfl⟩
  have HLE : Hid (er ≠ 0 → l = []) := Lib.hid (fun he => by
    have := Code.dec_err ks xs (by rw [hd]; exact he)
    rw [hd] at this
    exact this)
  have hll : l.length ≤ 1048576 := by
    by_cases he : er = 0
    · subst he
      have := (Code.dec_ok hM.out.lt hd).2
      omega
    · rw [HLE.out he]
      simp
  have HD : Hid (∀ W, Below w.heap.size w W → _) := Lib.hid (fun W hW => decode_calls K kcap ks B cap2 xs W (Lib.hid (hK.out.bel hW)) hkl (Lib.hid (hM.out.bel hW)) hlen hcap (Lib.hid (by omega)))
  rw [hd] at HD
  have HE2 : Hid (∀ (A9 : Option Addr) (c9 : Nat) (W : World), er = 0 → RdF W A9 l → Calls Try.prog 26 #[.slice A9 l.length c9] W fun e w' => (∃ v, e = .returned v ∧ ∃ u, v = .tuple #[u, .int .i64 0] ∧ Own8 w' W.heap.size u xs) ∧ Below W.heap.size W w') := Lib.hid (fun A9 c9 W he hF => by
    subst he
    have h1 := Code.dec_ok hM.out.lt hd
    have h2 := Code.enc_dec hM.out.lt hd
    have := encode_calls A9 c9 l W hF (by omega) h1.1 (Code.small h1.1 hll)
    rw [h2] at this
    exact this)
  have HSA := Lib.hid (Code.small hoa.out hla)
  have HEN : Hid (∀ x, Code.enc a = some x → x.length ≤ 1099511627776 ∧ Code.dec (a.map fun f => f.1) x = (a.map Code.nm, 0)) := Lib.hid (fun x hx => by
    have h1 := Code.enc_len hx hoa.out
    have h2 : a.length * 65546 ≤ 1048576 * 65546 := Nat.mul_le_mul_right _ hla
    exact ⟨by omega, Code.dec_enc hx hoa.out⟩)
  clear hd
  go_enter Try.func9, Try.ntmps9
  go_wp2_with fail
  refine (code_awake _).mono ?_
  rintro e w1 ⟨rfl, hb1⟩
  have HW1 := Lib.hid hb1
  clear hb1
  go_wp2_with fail
  refine (encode_calls A cap a w1 (hR.out.bel HW1.out) (by omega) hoa.out HSA.out).mono ?_
  rintro e w2 ⟨⟨v2, rfl, hv2⟩, hb2⟩
  have HW2 := Lib.hid (bel_tr HW1.out hb2)
  rcases hen : Code.enc a with _ | x
  · rw [hen] at hv2
    unfold ResB at hv2
    subst hv2
    clear hb2 hen HEN
    go_wp2_with fail
    refine (HD.out w2 HW2.out).mono ?_
    rintro e w9 ⟨⟨v9, rfl, ho9⟩, hb9⟩
    have HW9 := Lib.hid (bel_tr HW2.out hb9)
    obtain ⟨A9, c9, rfl, _, _, hR9, _⟩ := ho9.form
    have HR9 := Lib.hid hR9.toF
    clear hb9 ho9 hR9
    by_cases he2 : er = 0
    · subst he2
      go_wp2_with fail
      refine (HE2.out A9 c9 w9 (by trivial) HR9.out).mono ?_
      rintro e w10 ⟨⟨v10, rfl, u10, rfl, ho10⟩, hb10⟩
      have HW10 := Lib.hid (bel_tr HW9.out hb10)
      obtain ⟨A10, c10, rfl, _, hR10, _⟩ := ho10.form
      have hc1 := conv8 hR10 c10
      have hc2 := conv8 (hM.out.bel HW10.out) cap2
      clear hb10 ho10 hR10
      go_wp2_with fail
      go_ret
      exact ⟨rfl, HW10.out⟩
    · have hei : ((er : Int) != 0) = true := by rw [bne_iff_ne]; omega
      have hl0 := HLE.out he2
      subst hl0
      clear he2
      go_wp2_with fail
      go_ret
      exact ⟨rfl, HW9.out⟩
  · rw [hen] at hv2
    obtain ⟨u2, rfl, ho2⟩ := hv2
    obtain ⟨hx40, hdec⟩ := HEN.out x hen
    obtain ⟨A2, c2, rfl, hc2, hR2, _⟩ := ho2.form
    have hcm2 : c2 ≤ 9223372036854775807 := by
      rcases ho2.1.2 with ⟨e, _⟩ | ⟨g', cap', cur, e, _, _, _, h4, _⟩
      · injection e with _ _ e; omega
      · injection e with _ _ e; rw [e]; exact h4
    have HR2 := Lib.hid hR2
    have HDE := Lib.hid hdec
    clear hb2 hen HEN ho2 hR2 hdec
    go_wp2_with fail
    go_loopg [9, 10] a.length (fun g v9 v10 W => Below w.heap.size w W ∧ Below w2.heap.size w2 W ∧ ∃ k : Nat, v10 = .int .i64 k ∧ Hid (k + g = a.length ∧ OwnL (layI .i64) 3 W w2.heap.size v9 ((a.take k).map fun f => f.1)))
    case atStart => exact ⟨HW2.out, Below.refl _ _, 0, rfl, Lib.hid ⟨by omega, OwnL.nil _ _⟩⟩
    case round =>
      obtain ⟨hb, hb2, k, rfl, HI⟩ := hrel
      by_cases hlt : k < a.length
      · have hl : (k : Int) < (a.length : Int) := by omega
        have hg : 0 < gk := by have := HI.out.1; omega
        obtain ⟨hkg, hown⟩ := HI.out
        have HKG := Lib.hid hkg
        have HOW := Lib.hid hown
        have hst := map_step a k hlt
        obtain ⟨b1, o1, rfl, h1, p1, p2, p3⟩ := hR.out k hlt
        replace p1 := (hb.cell (p := ⟨b1, o1 + k * 3, none⟩) h1).trans p1
        generalize (a.getD k default).1 = kd at *
        have HST := Lib.hid hst
        have hkl2 : ((a.take k).map fun f => f.1).length = k := by rw [List.length_map, List.length_take]; omega
        have HKL2 := Lib.hid hkl2
        have hone := rdI_one wr kd
        have HONE := Lib.hid hone
        clear hkg hown hst HI p2 p3 hkl2 hone
        go_wp2_with (first
          | (at_builtin
             refine wpList_appL 36 _ 8 Try.underlying36 infoI rfl rfl (.tmp 33) (.tmp 39) rfl w2.heap.size _ _ rfl (HOW.out.kept (bel_new (Below.refl _ _) _)) (some ⟨wr.heap.size, 0, none⟩) 1 1 [kd] rfl rfl HONE.out (by rw [HKL2.out]; simp [maxLen]; omega) (by rw [HKL2.out]; simp; omega) (bel_new hb2 _).size ?_
             intro v5 w5 ho5 hg5
             have hb5 := Lib.hid (OwnL.grown (w0 := w2) (HOW.out.kept (bel_new (Below.refl _ _) _)) (bel_new hb2 _) (bel_new hb2 _).size hg5)))
        go_roundg (gk - 1)
        case rel => exact ⟨bel_tr HW2.out hb5.out, hb5.out, k + 1, by go_num, Lib.hid ⟨by have := HKG.out; omega, by rw [← HST.out]; exact ho5⟩⟩
        case measure => omega
      · have hl : ¬ (k : Int) < (a.length : Int) := by omega
        obtain ⟨hkg, hown⟩ := HI.out
        have hke : k = a.length := by omega
        rw [hke, List.take_length] at hown
        obtain ⟨A9, c9, rfl, _, _, hR9, _⟩ := hown.form
        have HR9 := Lib.hid hR9
        have hml : (a.map fun f => f.1).length = a.length := List.length_map _
        have hdc := decode_calls A9 c9 (a.map fun f => f.1) A2 c2 x wr HR9 (by rw [hml]; omega) (Lib.hid (HR2.out.bel hb2)) hc2 hcm2 (Lib.hid (by omega))
        rw [HDE.out, hml] at hdc
        have HDC := Lib.hid hdc
        clear hkg hown hke HI hR9 hdc hml hlt
        go_wp2_with fail
        refine HDC.out.mono ?_
        rintro e w5 ⟨⟨v5, rfl, ho5⟩, hb5⟩
        have HW5 := Lib.hid (bel_tr hb hb5)
        obtain ⟨A5, c5, rfl, _, _, hR5, _⟩ := ho5.form
        have hnl : (a.map Code.nm).length = a.length := List.length_map _
        rw [hnl]
        have HR5 := Lib.hid (hR5.toF)
        clear hb5 ho5 hR5 HDC hl
        generalize gk = gk0 at *
        go_wp2_with fail
        go_loopg [13] a.length (fun g v13 W => Below w.heap.size w W ∧ Below w5.heap.size w5 W ∧ ∃ k : Nat, v13 = .int .i64 k ∧ k + g = a.length)
        case atStart => exact ⟨HW5.out, Below.refl _ _, 0, rfl, by omega⟩
        case round =>
          obtain ⟨hb, hb5, k, rfl, hkg⟩ := hrel
          by_cases hlt : k < a.length
          · have hl : (k : Int) < (a.length : Int) := by omega
            have hg : 0 < gk := by omega
            have HKG := Lib.hid hkg
            obtain ⟨b1, o1, rfl, h1, p1, p2, p3⟩ := hR.out k hlt
            obtain ⟨b2, o2, rfl, h2, q1, q2, q3⟩ := HR5.out k (by rw [hnl]; exact hlt)
            rw [nm_at a k hlt] at q1 q2 q3
            replace p1 := (hb.cell (p := ⟨b1, o1 + k * 3, none⟩) h1).trans p1
            replace p2 := (hb.cell (p := ⟨b1, o1 + k * 3 + 1, none⟩) h1).trans p2
            replace p3 := (hb.cell (p := ⟨b1, o1 + k * 3 + 2, none⟩) h1).trans p3
            replace q1 := (hb5.cell (p := ⟨b2, o2 + k * 3, none⟩) h2).trans q1
            replace q2 := (hb5.cell (p := ⟨b2, o2 + k * 3 + 1, none⟩) h2).trans q2
            replace q3 := (hb5.cell (p := ⟨b2, o2 + k * 3 + 2, none⟩) h2).trans q3
            generalize a.getD k default = f at *
            obtain ⟨kd, n, s⟩ := f
            simp only at p1 p2 p3
            clear hkg
            by_cases h3 : kd = 3
            · subst h3
              rw [show Code.nm (3, n, s) = (3, 0, s) from by simp [Code.nm]] at q1 q2 q3
              simp only at q1 q2 q3
              clear hnl
              go_wp2_with fail
              go_quiet (fail)
              go_wp2_with fail
              go_roundg (gk - 1)
              case rel => exact ⟨bel_drewN hb _, bel_drewN hb5 _, k + 1, by go_num, by have := HKG.out; omega⟩
              case measure => omega
            · rw [show Code.nm (kd, n, s) = (kd, n, bs []) from by simp [Code.nm, h3]] at q1 q2 q3
              simp only at q1 q2 q3
              have h3i : (kd == 3) = false := by rw [beq_eq_false_iff_ne]; exact h3
              have h3j : (kd != 3) = true := by rw [bne_iff_ne]; exact h3
              clear hnl h3
              go_wp2_with fail
              go_quiet (fail)
              go_wp2_with fail
              go_roundg (gk - 1)
              case rel => exact ⟨bel_drewN hb _, bel_drewN hb5 _, k + 1, by go_num, by have := HKG.out; omega⟩
              case measure => omega
          · have hl : ¬ (k : Int) < (a.length : Int) := by omega
            clear hkg hlt hnl
            go_wp2_with fail
            refine (HD.out wr hb).mono ?_
            rintro e w9 ⟨⟨v9, rfl, ho9⟩, hb9⟩
            have HW9 := Lib.hid (bel_tr hb hb9)
            obtain ⟨A9, c9, rfl, _, _, hR9, _⟩ := ho9.form
            have HR9 := Lib.hid hR9.toF
            clear hb9 ho9 hR9
            by_cases he2 : er = 0
            · subst he2
              go_wp2_with fail
              refine (HE2.out A9 c9 w9 (by trivial) HR9.out).mono ?_
              rintro e w10 ⟨⟨v10, rfl, u10, rfl, ho10⟩, hb10⟩
              have HW10 := Lib.hid (bel_tr HW9.out hb10)
              obtain ⟨A10, c10, rfl, _, hR10, _⟩ := ho10.form
              have hc1 := conv8 hR10 c10
              have hc2 := conv8 (hM.out.bel HW10.out) cap2
              clear hb10 ho10 hR10
              go_wp2_with fail
              go_ret
              exact ⟨rfl, HW10.out⟩
            · have hei : ((er : Int) != 0) = true := by rw [bne_iff_ne]; omega
              have hl0 := HLE.out he2
              subst hl0
              clear he2
              go_wp2_with fail
              go_ret
              exact ⟨rfl, HW9.out⟩

set_option maxRecDepth 100000 in
theorem walks {H : Type} (enc : TypeId × Value → H) : WalksU enc Try.prog 9 Try.f9 := by
  intro W base args ds ps hval hA hwt hbulk
  rw [Try.params9] at hA hval hwt
  obtain ⟨v0, vs0, d0, ds0, p0, q0, hargs, rfl, rfl, h0, r0⟩ := trodAll_cons hA
  obtain ⟨v1, vs1, d1, ds1, p1, q1, rfl, rfl, rfl, h1, r1⟩ := trodAll_cons r0
  obtain ⟨v2, vs2, d2, ds2, p2, q2, rfl, rfl, rfl, h2, r2⟩ := trodAll_cons r1
  obtain ⟨rfl, rfl, rfl⟩ := trodAll_nil r2
  obtain rfl : args = #[v0, v1, v2] := by cases args; simp_all
  obtain ⟨A, a, cap, rfl, c1, c2, hR, hoa⟩ := fields_arg (hval 0 37 v0 rfl rfl) h0 (weightsEach_at (i := 0) hwt rfl rfl)
  obtain ⟨K, ks, kcap, rfl, c3, c4, hK⟩ := ints_arg (hval 1 36 v1 rfl rfl) h1 (weightsEach_at (i := 1) hwt rfl rfl)
  obtain ⟨B, xs, capB, rfl, c5, c6, hM⟩ := bytes_arg (hval 2 22 v2 rfl rfl) h2 (weightsEach_at (i := 2) hwt rfl rfl)
  have b0 := bulk_slice Try.underlying37 h0
  have b0' : Rows.uptoBulk d0 ≤ 1048576 := Nat.le_trans (bulk_part (by simp)) hbulk
  have b2 := bulk_slice Try.underlying22 h2
  have b2' : Rows.uptoBulk d2 ≤ 1048576 := Nat.le_trans (bulk_part (by simp)) hbulk
  exact walk A cap a K kcap ks B capB xs W (Lib.hid hR) (by omega) (Lib.hid hoa) (Lib.hid hK) (by omega) (Lib.hid hM) c5 (by omega) (by omega)

set_option maxRecDepth 100000 in
theorem lifted (os : Os) (started : os.Started) (H : Type) (enc : TypeId × Value → H) (F : Stop.Interp) :
    ReturnsInHanded {} Try.checked os 9 .any ((Rows.OpenSpec.upto Rows.codeBackSpec).pre6 enc Try.prog Try.f9 Rows.codeBackUptoRow.domain false) (((Rows.OpenSpec.upto Rows.codeBackSpec).at F).post enc Try.prog Try.f9 false true false false) :=
  frame_liftedU (C := Try.checked) own started (by kernel_rfl) Try.func9
    (OpenSpec.witness (enc := enc) (C := Try.checked) (s := Rows.OpenSpec.upto Rows.codeBackSpec) (k := Rows.uptoSmall) rfl false ⟨#[], #[.slice none 0 0, .slice none 0 0, .slice none 0 0], []⟩ 8 (by kernel_rfl) (by kernel_rfl) (by kernel_rfl)
      (x := ([.nil, .nil, .nil], [], [])) (by kernel_rfl) rfl (by kernel_rfl)) laidOut (by kernel_rfl) rfl (by rfl) Try.underlying4
    (fun ds h => match ds, h with | [d0, d1, d2], _ => ⟨rfl, rfl, rfl⟩) (walks enc)

theorem over : Rows.codeBackUptoRow.holds Try.pinned (Rows.OpenSpec.upto Rows.codeBackSpec) :=
  OpenClaim.holds_of_cond 9 Try.f9 rfl rfl rfl rfl rfl rfl rfl ⟨rfl, rfl, rfl, rfl, rfl⟩ rfl rfl rfl rfl rfl (by kernel_rfl) Try.func9 (by kernel_rfl)
    (of_decide_eq_true (by kernel_rfl)) (by unfold Func.isWrapper; first | (rw [if_pos (by decide +kernel)]; kernel_rfl) | (rw [if_neg (by decide +kernel)]; exact ⟨rfl, rfl⟩))
    (fun os started H enc _ F => lifted os started H enc F)

/-- the statement -/
theorem proved : Rows.CodeBackUptoSaid := over
end Go.Proofs.Ytkmhjfileiabeaa.lawCodeBack
