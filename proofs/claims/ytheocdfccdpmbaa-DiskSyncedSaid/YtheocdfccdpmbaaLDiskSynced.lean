/-
  DiskSynced: when all files are synced a crash takes nothing.
  No condition.
-/
import Derived.Test.YtheocdfccdpmbaaDkB
import Derived.BigQuiet
import Derived.Deep.Cut
import Derived.Deep.RegionHeld3
import Derived.Deep.DeepCutAuto
namespace Go.Proofs.Ytheocdfccdpmbaa.lawDiskSynced
open Go.ChangeShapes Go.WideShapes Go.ChangeAt Go.RowKit Go.Deep Go.Maps
set_option linter.unusedVariables false
set_option linter.unusedSimpArgs false
set_option maxHeartbeats 8000000

set_option maxRecDepth 100000 in
theorem walk (A : Option Addr) (cap : Nat) (xs : List DoG) (kp tn : Int) (w : World) (hR : Hid (RdL layDo w A xs)) (hG : Hid (∀ i, i < xs.length → (xs.getD i default).Ok w)) (hlx : xs.length ≤ 20000000000000) :
    Calls Try.prog 9 #[.slice A xs.length cap, .int .i64 kp, .int .i64 tn] w fun e w' => e = .returned (.bool true) ∧ Below w.heap.size w w' := by
  have HLX := Lib.hid hlx
  clear hlx
  go_enter Try.func9, Try.ntmps9
  go_wp2_with fail
  refine (disk_awake w).mono ?_
  rintro e w0 ⟨rfl, hb0⟩
  have HB0 := Lib.hid (Sp.keep (Sp.nil w) hb0)
  clear hb0
  go_wp2_with fail
  refine (new_g HB0).mono ?_
  rintro e w1 ⟨g, rfl, h1⟩
  have H1 := Lib.hid h1
  clear h1 HB0
  go_wp2_with fail
  go_loopg [8] (min xs.length 200) (fun n v8 W => ∃ (k : Nat) (S : DkG), v8 = .int .i64 k ∧ n + k = min xs.length 200 ∧ Hid (Sp w [dkT g S] W) ∧ Hid (S.uns ≤ k))
  case atStart => exact ⟨0, DkG.new, rfl, rfl, H1, Lib.hid (by decide +kernel)⟩
  case round =>
    clear H1
    obtain ⟨k, S, rfl, hnk, HS, HU⟩ := hrel
    by_cases hlt : k < xs.length ∧ k < 200
    · have hk1 : (k : Int) < (xs.length : Int) := by omega
      have hk2 : (k : Int) < 200 := by omega
      have hg : 0 < gk := by omega
      obtain ⟨b, off, hAe, -, e0, e1, e2, e3, e4⟩ := (hR.out.bel HS.out.bel).dg k hlt.1
      have hok := (hG.out k hlt.1).bel HS.out.bel
      obtain ⟨⟨kd, nm, A2, c2, b2, kp2, tn2⟩, hd⟩ : ∃ d, d = xs.getD k default := ⟨_, rfl⟩
      rw [← hd] at e0 e1 e2 e3 e4 hok
      have HOK := Lib.hid hok
      have HAE := Lib.hid hAe
      have HN := Lib.hid hnk
      have HL2 := Lib.hid hlt
      simp only at e0 e1 e2 e3 e4
      clear hd hok hAe hnk hlt
      rw [HAE.out]
      go_wp2_with fail
      refine (does_g HS ⟨kd, nm, A2, c2, b2, kp2, tn2⟩ HOK (by have := HU.out; have := HL2.out; omega)).mono ?_
      rintro e w2 ⟨rfl, h2⟩
      have H2 := Lib.hid h2
      have HU2 : Hid ((S.does ⟨kd, nm, A2, c2, b2, kp2, tn2⟩).uns ≤ k + 1) := Lib.hid (by have := DkG.uns_does S ⟨kd, nm, A2, c2, b2, kp2, tn2⟩; have := HU.out; omega)
      clear h2 e0 e1 e2 e3 e4 HS HU
      generalize S.does ⟨kd, nm, A2, c2, b2, kp2, tn2⟩ = S2 at *
      rw [← HAE.out]
      go_wp2_with fail
      go_roundg (gk - 1)
      case rel => exact ⟨k + 1, S2, by go_num, by have := HN.out; omega, H2, HU2⟩
      case measure => omega
    · have HU200 : Hid (S.uns ≤ 200) := Lib.hid (by have := HU.out; omega)
      have htest : (xs.length ≤ k) ∨ (k < xs.length ∧ 200 ≤ k) := by omega
      clear hlt hnk HU
      have hcut : True := trivial
      clear hcut
      go_upto_region 5 with (fail)
      go_cut [27] (fun s W => s = .bool false ∧ W = wr)
      case first =>
        rcases htest with h | ⟨h, h2⟩
        · have hk1 : ¬ (k : Int) < (xs.length : Int) := by omega
          go_wp2_with fail
          go_meet
          exact ⟨rfl, rfl⟩
        · have hk1 : (k : Int) < (xs.length : Int) := by omega
          have hk2 : ¬ (k : Int) < 200 := by omega
          go_wp2_with fail
          go_meet
          exact ⟨rfl, rfl⟩
      case rest =>
        obtain ⟨rfl, rfl⟩ := hcut
        clear htest
        go_wp2_with fail
        refine (names_g HS).mono ?_
        rintro e w3 ⟨Al, cl, rfl, o3, b3⟩
        have H3 : Hid (Sp w (dkT g S :: [ownT layN 9 (.slice Al (Dk.srt S.F).length cl) (Dk.srt S.F)]) w3) := Lib.hid ((HS.out.row b3 o3).perm (List.Perm.swap ..))
        have HLN : Hid ((Dk.srt S.F).length ≤ 64) := Lib.hid srt_le
        have HIN : Hid (∀ j, j < (Dk.srt S.F).length → (Dk.srt S.F).getD j default ∈ S.F) := Lib.hid (fun j hj => DkG.srt_at hj)
        obtain ⟨nl, hnl⟩ : ∃ nl, nl = Dk.srt S.F := ⟨_, rfl⟩
        rw [← hnl] at H3 HLN HIN
        rw [← hnl]
        have HNL := Lib.hid hnl
        clear o3 b3 HS hnl
        have HS0 : Hid (Sp w (dkT g S :: ownT layN 9 (.slice none 0 0) ((nl.take 0).map fun n => Dk.mkB (S.read n)) :: [ownT layN 9 (.slice Al nl.length cl) nl]) w3) := Lib.hid ((H3.out.row0).perm (List.Perm.swap ..))
        clear H3
        go_wp2_with fail
        go_loopg [10, 11, 12, 13] nl.length (fun n v10 v11 v12 v13 W => ∃ (k : Nat) (T : DkG) (B : Option Addr) (c : Nat), v11 = .int .i64 k ∧ v10 = .slice B k c ∧ n + k = nl.length ∧ Hid (Sp w (dkT g T :: ownT layN 9 (.slice B k c) ((nl.take k).map fun n => Dk.mkB (S.read n)) :: [ownT layN 9 (.slice Al nl.length cl) nl]) W) ∧ Hid (T.F = S.F ∧ (∀ n, T.read n = S.read n) ∧ T.uns ≤ 200 ∧ T.Quiet (nl.take k)))
        case atStart => exact ⟨0, S, none, 0, rfl, rfl, rfl, HS0, Lib.hid ⟨rfl, fun _ => rfl, HU200.out, DkG.quiet_nil S⟩⟩
        case round =>
          clear HS0
          obtain ⟨k, T, B, c, rfl, rfl, hnk, HS, HT⟩ := hrel
          by_cases hlt : k < nl.length
          · have hki : (k : Int) < (nl.length : Int) := by omega
            have hg : 0 < gk := by omega
            obtain ⟨b, off, hAe, -, e0⟩ := (HS.out.rd (e := 9) (A := Al) (n := nl.length) (c := cl) (xs := nl) (by simp)).nm k hlt
            obtain ⟨nm, hnm⟩ : ∃ nm, nm = nl.getD k default := ⟨_, rfl⟩
            rw [← hnm] at e0
            have hk1 : (k : Int) + 1 ≤ 9223372036854775807 := by have := HLN.out; omega
            have HNF : Hid (nm ∈ T.F) := Lib.hid (by rw [HT.out.1, hnm]; exact HIN.out k hlt)
            have HNM := Lib.hid hnm
            have HN := Lib.hid hnk
            have HLT := Lib.hid hlt
            have HAE := Lib.hid hAe
            clear hnm hnk hlt hAe
            rw [HAE.out]
            go_wp2_with fail
            refine (read_g HS nm (DkG.nm_in HNF.out)).mono ?_
            rintro e w4 ⟨A4, c4, he, o4, b4⟩
            rw [HT.out.2.1 nm, DkG.there_in HNF.out] at he
            rw [HT.out.2.1 nm] at o4
            subst he
            have vb := convO o4
            have H5 : Hid (Sp w (ownT layN 9 (.slice B k c) ((nl.take k).map fun n => Dk.mkB (S.read n)) :: dkT g T :: [ownT layN 9 (.slice Al nl.length cl) nl]) (w4.alloc (.cells #[.string (Dk.mkB (S.read nm))] 9))) := Lib.hid (((HS.out.keep b4).perm (List.Perm.swap ..)).keep (bel_new (Below.refl w4.heap.size w4) _))
            have HRD := Lib.hid (rdL_litN w4 (Dk.mkB (S.read nm)))
            have HTL : Hid (((nl.take k).map fun n => Dk.mkB (S.read n)).length = k) := Lib.hid (by rw [List.length_map, List.length_take]; have := HLT.out; omega)
            have HST : Hid (((nl.take k).map fun n => Dk.mkB (S.read n)) ++ [Dk.mkB (S.read nm)] = (nl.take (k + 1)).map fun n => Dk.mkB (S.read n)) := Lib.hid (by rw [take_snocG HLT.out, ← HNM.out, List.map_append]; rfl)
            have HTQ : Hid ((T.sync nm).F = S.F ∧ (∀ n, (T.sync nm).read n = S.read n) ∧ (T.sync nm).uns ≤ 200 ∧ (T.sync nm).Quiet (nl.take (k + 1))) := Lib.hid (by
              obtain ⟨t1, t2, t3, t4⟩ := HT.out
              refine ⟨by rw [DkG.sync_F]; exact t1, fun n => by rw [DkG.sync_read]; exact t2 n, Nat.le_trans (DkG.uns_sync T nm) t3, ?_⟩
              rw [take_snocG HLT.out, ← HNM.out]
              exact DkG.quiet_sync t4 HNF.out)
            clear o4 b4 HS e0
            go_wp2_with (at_builtin; refine wpList_appO8 (L := layN) 43 _ 16 Try.underlying43 infoN rfl rfl (.tmp 53) (.tmp 56) rfl w.heap.size (.slice B k c) ((nl.take k).map fun n => Dk.mkB (S.read n)) rfl (H5.out.own (List.mem_cons_self ..)) (some ⟨w4.heap.size, 0, none⟩) 1 1 [Dk.mkB (S.read nm)] rfl rfl HRD.out (by have := HTL.out; have := HLN.out; have := HLT.out; simp only [List.length_singleton, maxLen]; omega) (by have := HTL.out; have := HLN.out; have := HLT.out; simp only [List.length_singleton]; omega) H5.out.size ?_; intro v6 w6 ho6 hg6 h36; obtain ⟨A6, c6, rfl⟩ := ho6.formN (n := k + 1) (by rw [List.length_append, HTL.out]; rfl); have H6 := Lib.hid ((H5.out.app ho6 hg6 h36).perm (List.Perm.swap ..)); have e6 := (H6.out.rd (e := 9) (A := Al) (n := nl.length) (c := cl) (xs := nl) (by simp)).nmAt HAE.out HLT.out; rw [← HNM.out] at e6; clear ho6 hg6 h36)
            clear vb
            rw [HST.out] at H6
            refine (sync_g H6 nm (DkG.nm_in HNF.out) (by have := HT.out.2.2.1; omega)).mono ?_
            rintro e w7 ⟨he, h7⟩
            rw [DkG.there_in HNF.out] at he
            subst he
            have H7 := Lib.hid h7
            clear h7 H6 e6
            rw [← HAE.out]
            go_wp2_with fail
            go_roundg (gk - 1)
            case rel => exact ⟨k + 1, T.sync nm, A6, c6, by go_num, rfl, by have := HN.out; omega, H7, HTQ⟩
            case measure => omega
          · have hki : ¬ (k : Int) < (nl.length : Int) := by omega
            obtain rfl : k = nl.length := by omega
            have HU0 : Hid (T.uns = 0) := Lib.hid (DkG.quiet_all (by
              obtain ⟨t1, -, -, t4⟩ := HT.out
              rw [List.take_length] at t4
              rw [t1, ← HNL.out]; exact t4))
            have hb0 : (((0 : Nat) : Int) != 0) = false := by decide
            clear hnk hlt
            go_wp2_with fail
            refine (waiting_g HS).mono ?_
            rintro e w8 ⟨he, rfl⟩
            rw [HU0.out] at he
            subst he
            go_wp2_with fail
            refine (crash_g HS (by rw [HU0.out]; omega) kp tn).mono ?_
            rintro e w8 ⟨rfl, h8⟩
            have H8 := Lib.hid h8
            have HC : Hid ((T.crash kp tn).F = S.F ∧ ∀ n, (T.crash kp tn).read n = S.read n) := Lib.hid ⟨HT.out.1, fun n => by rw [DkG.crash_read0 HU0.out]; exact HT.out.2.1 n⟩
            generalize T.crash kp tn = U at *
            clear h8 HS HU0
            have HWL : Hid (((nl.take nl.length).map fun n => Dk.mkB (S.read n)).length = nl.length) := Lib.hid (by simp)
            have HWG : Hid (∀ j, j < nl.length → ((nl.take nl.length).map fun n => Dk.mkB (S.read n)).getD j default = Dk.mkB (S.read (nl.getD j default))) := Lib.hid (fun j hj => by simp [List.getD, hj])
            generalize (nl.take nl.length).map (fun n => Dk.mkB (S.read n)) = wl at *
            go_wp2_with fail
            go_loopg [14, 15, 16] nl.length (fun n v14 v15 v16 W => ∃ (j : Nat), v14 = .int .i64 j ∧ n + j = nl.length ∧ Hid (Sp w (dkT g U :: ownT layN 9 (.slice B nl.length c) wl :: [ownT layN 9 (.slice Al nl.length cl) nl]) W))
            case atStart => exact ⟨0, rfl, rfl, H8⟩
            case round =>
              clear H8
              obtain ⟨j, rfl, hnj, HS⟩ := hrel
              by_cases hlt : j < nl.length
              · have hji : (j : Int) < (nl.length : Int) := by omega
                have hg : 0 < gk := by omega
                have hj1 : (j : Int) + 1 ≤ 9223372036854775807 := by have := HLN.out; omega
                have hwj : IntKind.i64.wrap (j : Int) = (j : Int) := IntWalk.i64_in _ (by omega)
                obtain ⟨b, off, hAe, -, e0⟩ := (HS.out.rd (e := 9) (A := Al) (n := nl.length) (c := cl) (xs := nl) (by simp)).nm j hlt
                have HNF : Hid (nl.getD j default ∈ U.F) := Lib.hid (by rw [HC.out.1]; exact HIN.out j hlt)
                have HWJ := Lib.hid (HWG.out j hlt)
                have HN := Lib.hid hnj
                have HLT := Lib.hid hlt
                have HAE := Lib.hid hAe
                generalize nl.getD j default = nm at *
                clear hnj hlt hAe
                rw [HAE.out]
                go_wp2_with fail
                refine (read_g HS nm (DkG.nm_in HNF.out)).mono ?_
                rintro e w4 ⟨A4, c4, he, o4, b4⟩
                rw [HC.out.2 nm, DkG.there_in HNF.out] at he
                rw [HC.out.2 nm] at o4
                subst he
                have H4 := Lib.hid (HS.out.keep b4)
                obtain ⟨bw, ow, hBe, -, ew⟩ := (H4.out.rd (e := 9) (A := B) (n := nl.length) (c := c) (xs := wl) (by simp)).nm j (by rw [HWL.out]; exact HLT.out)
                rw [HWJ.out] at ew
                have vb : ∀ n, (convert 47 9 (.slice A4 (S.read nm).length c4)).run Try.prog (w4.drewN n) = .ok (.string (Dk.mkB (S.read nm))) (w4.drewN n) := fun n => convO (o4.kept (bel_drewN (Below.refl _ _) n))
                have hs : ((Dk.mkB (S.read nm)).toList != (Dk.mkB (S.read nm)).toList) = false := by simp
                have HBE := Lib.hid hBe
                clear o4 b4 HS e0 hBe
                rw [HBE.out]
                go_wp2_with fail
                go_quiet (fail)
                have H5 := Lib.hid (H4.out.keep (bel_drewN (Below.refl w4.heap.size w4) nq))
                clear vb ew H4
                rw [← HAE.out, ← HBE.out]
                go_wp2_with fail
                go_roundg (gk - 1)
                case rel => exact ⟨j + 1, by go_num, by have := HN.out; omega, H5⟩
                case measure => omega
              · have hji : ¬ (j : Int) < (nl.length : Int) := by omega
                clear hnj hlt
                go_wp2_with fail
                refine (names_g HS).mono ?_
                rintro e w9 ⟨A9, c9, he, o9, b9⟩
                rw [HC.out.1, ← HNL.out] at he o9
                subst he
                have H9 := Lib.hid (HS.out.row b9 o9)
                clear o9 b9 HS
                go_wp2_with fail
                refine (texts_calls Al A9 cl c9 nl nl w9 (Lib.hid (H9.out.rd (e := 9) (n := nl.length) (c := cl) (by simp))) (Lib.hid (H9.out.rd (e := 9) (n := nl.length) (c := c9) (by simp))) (by have := HLN.out; omega) (by have := HLN.out; omega)).mono ?_
                rintro e w10 ⟨he, b10⟩
                rw [decide_eq_true rfl] at he
                subst he
                have H10 := Lib.hid (H9.out.keep b10).bel
                clear b10
                go_wp2_with fail
                go_ret
                exact ⟨rfl, H10.out⟩

set_option maxRecDepth 100000 in
theorem walks {H : Type} (enc : TypeId × Value → H) : Walks enc Try.prog 9 Try.f9 := by
  intro W base args ds ps hval hA hwt
  rw [Try.params9] at hA hval hwt
  obtain ⟨v0, vs0, d0, ds0, p0, q0, hargs, rfl, rfl, h0, r0⟩ := trodAll_cons hA
  obtain ⟨v1, vs1, d1, ds1, p1, q1, rfl, rfl, rfl, h1, r1⟩ := trodAll_cons r0
  obtain ⟨v2, vs2, d2, ds2, p2, q2, rfl, rfl, rfl, h2, r2⟩ := trodAll_cons r1
  obtain ⟨rfl, rfl, rfl⟩ := trodAll_nil r2
  obtain rfl : args = #[v0, v1, v2] := by cases args; simp_all
  obtain ⟨A, xs, cap, rfl, a1, b1, c1, g1⟩ := script_arg (hval 0 39 v0 rfl rfl) h0 (weightsEach_at (i := 0) hwt rfl rfl)
  obtain ⟨k, rfl, rfl, rfl, hk⟩ := open_int Try.underlying3 (hval 1 3 v1 rfl rfl) h1
  obtain ⟨t, rfl, rfl, rfl, ht⟩ := open_int Try.underlying3 (hval 2 3 v2 rfl rfl) h2
  exact walk A cap xs k t W (Lib.hid c1) (Lib.hid g1) (by omega)

set_option maxRecDepth 100000 in
theorem lifted (os : Os) (started : os.Started) (H : Type) (enc : TypeId × Value → H) :
    ReturnsInHanded {} Try.checked os 9 .any (Rows.diskSyncedSpec.pre6 enc Try.prog Try.f9 Rows.diskSyncedRow.domain false) (Rows.diskSyncedSpec.post enc Try.prog Try.f9 false true false false) :=
  frame_lifted (C := Try.checked) own started (by kernel_rfl) Try.func9
    (ChangeSpec.witness6 (enc := enc) (C := Try.checked) false ⟨#[], #[.slice none 0 0, .int .i64 0, .int .i64 0], []⟩ 8 (by kernel_rfl) (by kernel_rfl) (by kernel_rfl) (by kernel_rfl)) laidOut (by kernel_rfl) rfl (by rfl) Try.underlying4
    (fun ds h => match ds, h with | [d0, d1, d2], _ => ⟨rfl, rfl, rfl⟩) (walks enc)

theorem over : Rows.diskSyncedRow.holds Try.pinned (OpenSpec.ofChange Rows.diskSyncedSpec) :=
  OpenClaim.holds_of_wide 9 Try.f9 rfl rfl rfl rfl rfl rfl rfl ⟨rfl, rfl, rfl, rfl, rfl⟩ rfl rfl rfl rfl rfl (by kernel_rfl) Try.func9 (by kernel_rfl)
    (of_decide_eq_true (by kernel_rfl)) (by unfold Func.isWrapper; first | (rw [if_pos (by decide +kernel)]; kernel_rfl) | (rw [if_neg (by decide +kernel)]; exact ⟨rfl, rfl⟩))
    (fun os started H enc _ => lifted os started H enc)

/-- the statement -/
theorem proved : Rows.DiskSyncedSaid := over
end Go.Proofs.Ytheocdfccdpmbaa.lawDiskSynced
