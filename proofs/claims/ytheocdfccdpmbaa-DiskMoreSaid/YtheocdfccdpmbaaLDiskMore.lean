/-
  DiskMore: a crash that keeps more leaves more.
  No condition.
-/
import Derived.Test.YtheocdfccdpmbaaDkB
import Derived.BigQuiet
import Derived.Deep.Cut
import Derived.Deep.RegionHeld3
import Derived.Deep.DeepCutAuto
namespace Go.Proofs.Ytheocdfccdpmbaa.lawDiskMore
open Go.ChangeShapes Go.WideShapes Go.ChangeAt Go.RowKit Go.Deep Go.Maps
set_option linter.unusedVariables false
set_option linter.unusedSimpArgs false
set_option maxHeartbeats 8000000

theorem crash_more (S : DkG) (k t : Int) (n : ByteArray) : (S.crash k t).read n <+: (S.crash (k + 1) t).read n := by
  show Dk.content n (Dk.crash _ _ S.L) <+: Dk.content n (Dk.crash _ _ S.L)
  rw [Dk.crash_content, Dk.crash_content]
  rcases Int.lt_or_le k 0 with h | h
  · have e1 : k.toNat = 0 := by omega
    have e2 : (k + 1).toNat = 0 := by omega
    rw [e1, e2]
    exact List.prefix_refl _
  · have e2 : (k + 1).toNat = k.toNat + 1 := by omega
    rw [e2]
    refine Dk.mu_prefix (k := k.toNat) (fun j hj b => ?_) (fun b => ?_) (fun j hj b => ?_) S.ok.ord n
    · unfold Dk.left
      rw [if_neg (by omega), if_neg (by omega), if_neg (by omega), if_neg (by omega)]
    · unfold Dk.left
      rw [if_neg (by omega), if_pos rfl, if_neg (by omega), if_neg (by omega)]
      exact List.take_prefix _ _
    · unfold Dk.left
      rw [if_pos hj]

set_option maxRecDepth 100000 in
theorem walk (A : Option Addr) (cap : Nat) (xs : List DoG) (kp tn : Int) (w : World) (hR : Hid (RdL layDo w A xs)) (hG : Hid (∀ i, i < xs.length → (xs.getD i default).Ok w)) (hlx : xs.length ≤ 20000000000000) (hkb : -9223372036854775808 ≤ kp ∧ kp ≤ 9223372036854775807) :
    Calls Try.prog 8 #[.slice A xs.length cap, .int .i64 kp, .int .i64 tn] w fun e w' => e = .returned (.bool true) ∧ Below w.heap.size w w' := by
  have HLX := Lib.hid hlx
  have HKB := Lib.hid hkb
  clear hlx hkb
  go_enter Try.func8, Try.ntmps8
  go_wp2_with fail
  refine (disk_awake w).mono ?_
  rintro e w0 ⟨rfl, hb0⟩
  have HB0 := Lib.hid (Sp.keep (Sp.nil w) hb0)
  clear hb0
  go_wp2_with fail
  refine (new_g HB0).mono ?_
  rintro e w1 ⟨ga, rfl, h1⟩
  have H1 := Lib.hid h1
  clear h1 HB0
  go_wp2_with fail
  refine (new_g H1).mono ?_
  rintro e w2 ⟨gb, rfl, h2⟩
  have H2 : Hid (Sp w (dkT ga DkG.new :: [dkT gb DkG.new]) w2) := Lib.hid (h2.perm (List.Perm.swap ..))
  clear h2 H1
  go_wp2_with fail
  go_loopg [9] (min xs.length 200) (fun n v9 W => ∃ (k : Nat) (S : DkG), v9 = .int .i64 k ∧ n + k = min xs.length 200 ∧ Hid (Sp w (dkT ga S :: [dkT gb S]) W) ∧ Hid (S.uns ≤ k))
  case atStart => exact ⟨0, DkG.new, rfl, rfl, H2, Lib.hid (by decide +kernel)⟩
  case round =>
    clear H2
    obtain ⟨k, S, rfl, hnk, HS, HU⟩ := hrel
    by_cases hlt : k < xs.length ∧ k < 200
    · have hk1 : (k : Int) < (xs.length : Int) := by omega
      have hk2 : (k : Int) < 200 := by omega
      have hg : 0 < gk := by omega
      have hk3 : (k : Int) + 1 ≤ 9223372036854775807 := by omega
      have hwk : IntKind.i64.wrap (k : Int) = (k : Int) := IntWalk.i64_in _ (by omega)
      obtain ⟨b, off, hAe, hbl, -⟩ := (hR.out.bel HS.out.bel).dg k hlt.1
      obtain ⟨d, hd⟩ : ∃ d, d = xs.getD k default := ⟨_, rfl⟩
      have HCE : Hid (∀ W, Below w.heap.size w W → W.cell? ⟨b, off + k * 5, none⟩ = some (.int .i64 d.kd) ∧ W.cell? ⟨b, off + k * 5 + 1, none⟩ = some (.string d.nm) ∧ W.cell? ⟨b, off + k * 5 + 2, none⟩ = some (.slice d.A d.b.length d.c) ∧ W.cell? ⟨b, off + k * 5 + 3, none⟩ = some (.int .i64 d.kp) ∧ W.cell? ⟨b, off + k * 5 + 4, none⟩ = some (.int .i64 d.tn)) := Lib.hid (fun W hW => by
        obtain ⟨b', off', hA', -, e0, e1, e2, e3, e4⟩ := (hR.out.bel hW).dg k hlt.1
        rw [hAe] at hA'
        obtain ⟨q1, q2, -⟩ := Addr.mk.inj (Option.some.inj hA')
        subst q1; subst q2
        rw [← hd] at e0 e1 e2 e3 e4
        exact ⟨e0, e1, e2, e3, e4⟩)
      have HOK : Hid (∀ W, Below w.heap.size w W → d.Ok W) := Lib.hid (fun W hW => by rw [hd]; exact (hG.out k hlt.1).bel hW)
      obtain ⟨kd, nm, A2, c2, b2, kp2, tn2⟩ := d
      have HAE := Lib.hid hAe
      have HN := Lib.hid hnk
      have HL2 := Lib.hid hlt
      simp only at HCE
      obtain ⟨e0, e1, e2, e3, e4⟩ := HCE.out wr HS.out.bel
      clear hd hAe hnk hlt hbl
      rw [HAE.out]
      by_cases hkd : kd = 0 ∨ kd = 1
      · have HU2 : Hid ((S.does ⟨kd, nm, A2, c2, b2, kp2, tn2⟩).uns ≤ k + 1) := Lib.hid (by have := DkG.uns_does S ⟨kd, nm, A2, c2, b2, kp2, tn2⟩; have := HU.out; omega)
        rcases hkd with rfl | rfl
        · obtain ⟨x, hx⟩ : ∃ x, x = S.doE ⟨0, nm, A2, c2, b2, kp2, tn2⟩ := ⟨_, rfl⟩
          have HX := Lib.hid hx
          have hxx : (x != x) = false := by simp
          have HUU : Hid (S.uns ≤ 900000) := Lib.hid (by have := HU.out; have := HL2.out; omega)
          clear hx
          go_wp2_with fail
          go_region_held3 (fun W => W.cell? ⟨b, off + k * 5, none⟩ = some (.int .i64 0) ∧ W.cell? ⟨b, off + k * 5 + 1, none⟩ = some (.string nm) ∧ W.cell? ⟨b, off + k * 5 + 2, none⟩ = some (.slice A2 b2.length c2) ∧ W.cell? ⟨b, off + k * 5 + 3, none⟩ = some (.int .i64 kp2) ∧ W.cell? ⟨b, off + k * 5 + 4, none⟩ = some (.int .i64 tn2)) (go_keep) (first
            | (go_at_call 26; refine (does_g (Lib.hid (HJ.out.perm (List.Perm.swap ..))) ⟨0, nm, A2, c2, b2, kp2, tn2⟩ (Lib.hid (HOK.out _ HJ.out.bel)) HUU.out).mono ?_; rintro e w5 ⟨rfl, h5⟩; have HJ2 := Lib.hid h5; rw [← HX.out]; obtain ⟨e0, e1, e2, e3, e4⟩ := HCE.out _ HJ2.out.bel; clear h5)
            | (go_at_call 26; refine (does_g (Lib.hid (HS.out.keep (bel_drew (Below.refl _ _)))) ⟨0, nm, A2, c2, b2, kp2, tn2⟩ (Lib.hid (HOK.out _ (HS.out.keep (bel_drew (Below.refl _ _))).bel)) HUU.out).mono ?_; rintro e w4 ⟨rfl, h4⟩; have HJ := Lib.hid h4; rw [← HX.out]; obtain ⟨e0, e1, e2, e3, e4⟩ := HCE.out _ HJ.out.bel; clear h4))
          go_wp2_with fail
          have H6 : Hid (Sp w (dkT ga (S.does ⟨0, nm, A2, c2, b2, kp2, tn2⟩) :: [dkT gb (S.does ⟨0, nm, A2, c2, b2, kp2, tn2⟩)]) w5) := Lib.hid (HJ2.out.perm (List.Perm.swap ..))
          clear HJ HJ2
          generalize S.does ⟨0, nm, A2, c2, b2, kp2, tn2⟩ = S2 at *
          rw [← HAE.out]
          go_roundg (gk - 1)
          case rel => exact ⟨k + 1, S2, by go_num, by have := HN.out; omega, H6, HU2⟩
          case measure => omega
        · obtain ⟨x, hx⟩ : ∃ x, x = S.doE ⟨1, nm, A2, c2, b2, kp2, tn2⟩ := ⟨_, rfl⟩
          have HX := Lib.hid hx
          have hxx : (x != x) = false := by simp
          have HUU : Hid (S.uns ≤ 900000) := Lib.hid (by have := HU.out; have := HL2.out; omega)
          clear hx
          go_wp2_with fail
          go_region_held3 (fun W => W.cell? ⟨b, off + k * 5, none⟩ = some (.int .i64 1) ∧ W.cell? ⟨b, off + k * 5 + 1, none⟩ = some (.string nm) ∧ W.cell? ⟨b, off + k * 5 + 2, none⟩ = some (.slice A2 b2.length c2) ∧ W.cell? ⟨b, off + k * 5 + 3, none⟩ = some (.int .i64 kp2) ∧ W.cell? ⟨b, off + k * 5 + 4, none⟩ = some (.int .i64 tn2)) (go_keep) (first
            | (go_at_call 26; refine (does_g (Lib.hid (HJ.out.perm (List.Perm.swap ..))) ⟨1, nm, A2, c2, b2, kp2, tn2⟩ (Lib.hid (HOK.out _ HJ.out.bel)) HUU.out).mono ?_; rintro e w5 ⟨rfl, h5⟩; have HJ2 := Lib.hid h5; rw [← HX.out]; obtain ⟨e0, e1, e2, e3, e4⟩ := HCE.out _ HJ2.out.bel; clear h5)
            | (go_at_call 26; refine (does_g (Lib.hid (HS.out.keep (bel_drew (Below.refl _ _)))) ⟨1, nm, A2, c2, b2, kp2, tn2⟩ (Lib.hid (HOK.out _ (HS.out.keep (bel_drew (Below.refl _ _))).bel)) HUU.out).mono ?_; rintro e w4 ⟨rfl, h4⟩; have HJ := Lib.hid h4; rw [← HX.out]; obtain ⟨e0, e1, e2, e3, e4⟩ := HCE.out _ HJ.out.bel; clear h4))
          go_wp2_with fail
          have H6 : Hid (Sp w (dkT ga (S.does ⟨1, nm, A2, c2, b2, kp2, tn2⟩) :: [dkT gb (S.does ⟨1, nm, A2, c2, b2, kp2, tn2⟩)]) w5) := Lib.hid (HJ2.out.perm (List.Perm.swap ..))
          clear HJ HJ2
          generalize S.does ⟨1, nm, A2, c2, b2, kp2, tn2⟩ = S2 at *
          rw [← HAE.out]
          go_roundg (gk - 1)
          case rel => exact ⟨k + 1, S2, by go_num, by have := HN.out; omega, H6, HU2⟩
          case measure => omega
      · have hk0 : (kd == 0) = false := by rw [beq_eq_false_iff_ne]; exact fun e => hkd (.inl e)
        have hk01 : (kd == 1) = false := by rw [beq_eq_false_iff_ne]; exact fun e => hkd (.inr e)
        have HU2 : Hid (S.uns ≤ k + 1) := Lib.hid (by have := HU.out; omega)
        clear hkd
        go_wp2_with fail
        rw [← HAE.out]
        go_roundg (gk - 1)
        case rel => exact ⟨k + 1, S, by go_num, by have := HN.out; omega, HS, HU2⟩
        case measure => omega
    · have HU200 : Hid (S.uns ≤ 200) := Lib.hid (by have := HU.out; omega)
      have htest : (xs.length ≤ k) ∨ (k < xs.length ∧ 200 ≤ k) := by omega
      clear hlt hnk HU
      go_upto_region 6 with (fail)
      go_cut [27] (fun s W => s = .bool false ∧ W = wr)
      case first =>
        rcases htest with h | ⟨h, h2⟩
        · have hk1 : ¬ (k : Int) < (xs.length : Int) := by omega
          go_wp2_with fail
          go_meet
          exact ⟨rfl, rfl⟩
        · have hk1 : (k : Int) < (xs.length : Int) := by omega
          have hk2 : ¬ (k : Int) < 200 := by omega
          go_wp2_with fail
          go_meet
          exact ⟨rfl, rfl⟩
      case rest =>
        obtain ⟨rfl, rfl⟩ := hcut
        clear htest
        obtain ⟨cb, hcb⟩ : ∃ cb, cb = decide (1000 < kp ∨ kp < -1000) := ⟨_, rfl⟩
        have HCB := Lib.hid hcb
        clear hcb
        go_upto_region 11 with (fail)
        go_cut [62] (fun s W => s = .bool cb ∧ W = wc)
        case first =>
          by_cases q1 : 1000 < kp
          · obtain rfl : cb = true := by rw [HCB.out, decide_eq_true]; exact .inl q1
            go_wp2_with fail
            go_meet
            exact ⟨rfl, rfl⟩
          · by_cases q2 : kp < -1000
            · obtain rfl : cb = true := by rw [HCB.out, decide_eq_true]; exact .inr q2
              go_wp2_with fail
              go_meet
              exact ⟨rfl, rfl⟩
            · obtain rfl : cb = false := by rw [HCB.out, decide_eq_false]; omega
              go_wp2_with fail
              go_meet
              exact ⟨by simp [q1, q2], rfl⟩
        case rest =>
          obtain ⟨rfl, rfl⟩ := hcut
          go_upto_if 62 with (fail)
          go_cut [1] (fun s W => ∃ kk : Int, s = .int .i64 kk ∧ (-1000 ≤ kk ∧ kk ≤ 1000) ∧ W = wc)
          case first =>
            cases cb with
            | true =>
              go_wp2_with fail
              go_meet
              exact ⟨0, rfl, ⟨by omega, by omega⟩, rfl⟩
            | false =>
              have hkk : -1000 ≤ kp ∧ kp ≤ 1000 := by have := HCB.out.symm; simp at this; omega
              go_wp2_with fail
              go_meet
              exact ⟨kp, rfl, hkk, rfl⟩
          case rest =>
            obtain ⟨kk, rfl, hkk, rfl⟩ := hcut
            clear HCB
            have hkw : IntKind.i64.wrap (kk + 1) = kk + 1 := IntWalk.i64_in _ (by omega)
            have HUU : Hid (S.uns ≤ 1000000) := Lib.hid (by have := HU200.out; omega)
            go_wp2_with fail
            refine (crash_g HS HUU.out kk tn).mono ?_
            rintro e w3 ⟨rfl, h3⟩
            have H3 : Hid (Sp w (dkT gb S :: [dkT ga (S.crash kk tn)]) w3) := Lib.hid (h3.perm (List.Perm.swap ..))
            clear h3 HS
            go_wp2_with fail
            refine (crash_g H3 HUU.out (kk + 1) tn).mono ?_
            rintro e w4 ⟨rfl, h4⟩
            have H4 : Hid (Sp w (dkT ga (S.crash kk tn) :: [dkT gb (S.crash (kk + 1) tn)]) w4) := Lib.hid (h4.perm (List.Perm.swap ..))
            have HPF : Hid ((S.crash kk tn).F = S.F ∧ (S.crash (kk + 1) tn).F = S.F ∧ ∀ n, (S.crash kk tn).read n <+: (S.crash (kk + 1) tn).read n) := Lib.hid ⟨rfl, rfl, fun n => crash_more S kk tn n⟩
            generalize S.crash kk tn = U at *
            generalize S.crash (kk + 1) tn = V at *
            clear h4 H3 hkw hkk
            go_wp2_with fail
            refine (names_g H4).mono ?_
            rintro e w5 ⟨Al, cl, he, o5, b5⟩
            rw [HPF.out.1] at he o5
            have H5 : Hid (Sp w (dkT ga U :: dkT gb V :: [ownT layN 9 (.slice Al (Dk.srt S.F).length cl) (Dk.srt S.F)]) w5) := Lib.hid ((H4.out.row b5 o5).perm (List.perm_append_comm (l₁ := [_]) (l₂ := [_, _])))
            have HLN : Hid ((Dk.srt S.F).length ≤ 64) := Lib.hid srt_le
            have HIN : Hid (∀ j, j < (Dk.srt S.F).length → (Dk.srt S.F).getD j default ∈ S.F) := Lib.hid (fun j hj => DkG.srt_at hj)
            obtain ⟨nl, hnl⟩ : ∃ nl, nl = Dk.srt S.F := ⟨_, rfl⟩
            rw [← hnl] at he H5 HLN HIN
            subst he
            have HNL := Lib.hid hnl
            clear o5 b5 H4 hnl
            go_wp2_with fail
            refine (names_g (Lib.hid (H5.out.perm (List.Perm.swap ..)))).mono ?_
            rintro e w6 ⟨A6, c6, he, o6, b6⟩
            rw [HPF.out.2.1, ← HNL.out] at he o6
            subst he
            have H6 : Hid (Sp w (ownT layN 9 (.slice A6 nl.length c6) nl :: dkT ga U :: dkT gb V :: [ownT layN 9 (.slice Al nl.length cl) nl]) w6) := Lib.hid (((H5.out.perm (List.Perm.swap ..)).row b6 o6).perm ((List.Perm.swap ..).cons _))
            clear o6 b6 H5
            go_wp2_with fail
            refine (texts_calls Al A6 cl c6 nl nl w6 (Lib.hid (H6.out.rd (e := 9) (n := nl.length) (c := cl) (by simp))) (Lib.hid (H6.out.rd (e := 9) (n := nl.length) (c := c6) (by simp))) (by have := HLN.out; omega) (by have := HLN.out; omega)).mono ?_
            rintro e w7 ⟨he, b7⟩
            rw [decide_eq_true rfl] at he
            subst he
            have H7 : Hid (Sp w (dkT ga U :: dkT gb V :: [ownT layN 9 (.slice Al nl.length cl) nl]) w7) := Lib.hid (H6.out.keep b7).tail
            clear b7 H6
            go_wp2_with fail
            go_loopg [11, 12, 13, 14, 15] nl.length (fun n v11 v12 v13 v14 v15 W => ∃ (j : Nat), v11 = .int .i64 j ∧ n + j = nl.length ∧ Hid (Sp w (dkT ga U :: dkT gb V :: [ownT layN 9 (.slice Al nl.length cl) nl]) W))
            case atStart => exact ⟨0, rfl, rfl, H7⟩
            case round =>
              clear H7
              obtain ⟨j, rfl, hnj, HS⟩ := hrel
              by_cases hlt : j < nl.length
              · have hji : (j : Int) < (nl.length : Int) := by omega
                have hg : 0 < gk := by omega
                have hj1 : (j : Int) + 1 ≤ 9223372036854775807 := by have := HLN.out; omega
                have hwj : IntKind.i64.wrap (j : Int) = (j : Int) := IntWalk.i64_in _ (by omega)
                obtain ⟨b, off, hAe, -, e0⟩ := (HS.out.rd (e := 9) (A := Al) (n := nl.length) (c := cl) (xs := nl) (by simp)).nm j hlt
                have HNF : Hid (nl.getD j default ∈ S.F) := Lib.hid (HIN.out j hlt)
                have HN := Lib.hid hnj
                have HLT := Lib.hid hlt
                have HAE := Lib.hid hAe
                obtain ⟨nm, hnm⟩ : ∃ nm, nm = nl.getD j default := ⟨_, rfl⟩
                rw [← hnm] at e0 HNF
                have HNM := Lib.hid hnm
                clear hnj hlt hAe hnm
                rw [HAE.out]
                go_wp2_with fail
                refine (read_g HS nm (by have := DkG.nm_in HNF.out; exact this)).mono ?_
                rintro e w8 ⟨A8, c8, he, o8, b8⟩
                rw [HPF.out.1, DkG.there_in HNF.out] at he
                subst he
                have H8 : Hid (Sp w (dkT gb V :: ownT layB 5 (.slice A8 (U.read nm).length c8) (U.read nm) :: dkT ga U :: [ownT layN 9 (.slice Al nl.length cl) nl]) w8) := Lib.hid ((HS.out.row b8 o8).perm (((List.Perm.swap ..).cons _).trans (List.Perm.swap ..)))
                have e8 := (H8.out.rd (e := 9) (A := Al) (n := nl.length) (c := cl) (xs := nl) (by simp)).nmAt HAE.out HLT.out
                rw [← HNM.out] at e8
                clear o8 b8 HS e0
                go_wp2_with fail
                refine (read_g H8 nm (by have := DkG.nm_in HNF.out; exact this)).mono ?_
                rintro e w9 ⟨A9, c9, he, o9, b9⟩
                rw [HPF.out.2.1, DkG.there_in HNF.out] at he
                subst he
                have H9 := Lib.hid (H8.out.row b9 o9)
                have hpre := HPF.out.2.2 nm
                have hle : (U.read nm).length ≤ (V.read nm).length := hpre.length_le
                have htk : (V.read nm).take (U.read nm).length = U.read nm := (List.prefix_iff_eq_take.1 hpre).symm
                have hd1 : decide (((V.read nm).length : Int) < ((U.read nm).length : Int)) = false := by rw [decide_eq_false_iff_not]; omega
                have o8' : OwnL layB 5 w9 w.heap.size (.slice A8 (U.read nm).length c8) (U.read nm) := H9.out.own (by simp)
                have vx : ∀ n, (convert 47 9 (.slice A8 (U.read nm).length c8)).run Try.prog (w9.drewN n) = .ok (.string (Dk.mkB (U.read nm))) (w9.drewN n) := fun n => convO (o8'.kept (bel_drewN (Below.refl _ _) n))
                have vy : ∀ n, (convert 47 9 (.slice A9 (U.read nm).length c9)).run Try.prog (w9.drewN n) = .ok (.string (Dk.mkB (U.read nm))) (w9.drewN n) := fun n => by
                  have := convO ((o9.cut hle).kept (bel_drewN (Below.refl _ _) n))
                  rwa [htk] at this
                have hcp : (V.read nm).length ≤ c9 ∧ ((∃ g9, A9 = some ⟨g9, 0, none⟩) ∨ (A9 = none ∧ (V.read nm).length = 0)) := by
                  rcases o9.2 with ⟨e, h0⟩ | ⟨g9, cap9, cur9, e, -, -, h3, -⟩
                  · obtain ⟨q1, q2, q3⟩ := Value.slice.inj e
                    exact ⟨by omega, .inr ⟨q1, h0⟩⟩
                  · obtain ⟨q1, q2, q3⟩ := Value.slice.inj e
                    exact ⟨by omega, .inl ⟨g9, q1⟩⟩
                have hlc : (U.read nm).length ≤ c9 := Nat.le_trans hle hcp.1
                have hss : ((Dk.mkB (U.read nm)).toList != (Dk.mkB (U.read nm)).toList) = false := by simp
                obtain ⟨-, hA9⟩ := hcp
                obtain ⟨lu, hlu⟩ : ∃ lu, lu = (U.read nm).length := ⟨_, rfl⟩
                obtain ⟨lv, hlv⟩ : ∃ lv, lv = (V.read nm).length := ⟨_, rfl⟩
                rw [← hlu] at vx vy hlc hle
                rw [← hlu, ← hlv] at hd1
                rw [← hlv] at hle
                have hA9' : (∃ g9, A9 = some ⟨g9, 0, none⟩) ∨ A9 = none := hA9.imp (fun h => h) (fun h => h.1)
                have hd2 : decide (lv < lu) = false := by rw [decide_eq_false_iff_not]; omega
                rw [← hlu, ← hlv]
                clear o8' o9 b9 H8 e8 hpre htk hlu hlv hA9
                rcases hA9' with ⟨g9, rfl⟩ | rfl
                all_goals
                  go_wp2_with fail
                  go_quiet (fail)
                  have H10 : Hid (Sp w (dkT ga U :: dkT gb V :: [ownT layN 9 (.slice Al nl.length cl) nl]) (w9.drewN nq)) := Lib.hid (((((H9.out.keep (bel_drewN (Below.refl w9.heap.size w9) nq)).tail).perm ((List.Perm.swap ..))).tail).perm (List.Perm.swap ..))
                  clear vx vy H9 hd1 hd2 hlc hle hss
                  rw [← HAE.out]
                  go_wp2_with fail
                  go_roundg (gk - 1)
                  case rel => exact ⟨j + 1, by go_num, by have := HN.out; omega, H10⟩
                  case measure => omega
              · have hji : ¬ (j : Int) < (nl.length : Int) := by omega
                clear hnj hlt
                go_wp2_with fail
                go_ret
                exact ⟨rfl, HS.out.bel⟩

set_option maxRecDepth 100000 in
theorem walks {H : Type} (enc : TypeId × Value → H) : Walks enc Try.prog 8 Try.f8 := by
  intro W base args ds ps hval hA hwt
  rw [Try.params8] at hA hval hwt
  obtain ⟨v0, vs0, d0, ds0, p0, q0, hargs, rfl, rfl, h0, r0⟩ := trodAll_cons hA
  obtain ⟨v1, vs1, d1, ds1, p1, q1, rfl, rfl, rfl, h1, r1⟩ := trodAll_cons r0
  obtain ⟨v2, vs2, d2, ds2, p2, q2, rfl, rfl, rfl, h2, r2⟩ := trodAll_cons r1
  obtain ⟨rfl, rfl, rfl⟩ := trodAll_nil r2
  obtain rfl : args = #[v0, v1, v2] := by cases args; simp_all
  obtain ⟨A, xs, cap, rfl, a1, b1, c1, g1⟩ := script_arg (hval 0 39 v0 rfl rfl) h0 (weightsEach_at (i := 0) hwt rfl rfl)
  obtain ⟨k, rfl, rfl, rfl, hk⟩ := open_int Try.underlying3 (hval 1 3 v1 rfl rfl) h1
  obtain ⟨t, rfl, rfl, rfl, ht⟩ := open_int Try.underlying3 (hval 2 3 v2 rfl rfl) h2
  exact walk A cap xs k t W (Lib.hid c1) (Lib.hid g1) (by omega) (by simp [Lit.wf, IntKind.min, IntKind.max, IntKind.signed, IntKind.bits] at hk; exact hk)

set_option maxRecDepth 100000 in
theorem lifted (os : Os) (started : os.Started) (H : Type) (enc : TypeId × Value → H) :
    ReturnsInHanded {} Try.checked os 8 .any (Rows.diskMoreSpec.pre6 enc Try.prog Try.f8 Rows.diskMoreRow.domain false) (Rows.diskMoreSpec.post enc Try.prog Try.f8 false true false false) :=
  frame_lifted (C := Try.checked) own started (by kernel_rfl) Try.func8
    (ChangeSpec.witness6 (enc := enc) (C := Try.checked) false ⟨#[], #[.slice none 0 0, .int .i64 0, .int .i64 0], []⟩ 8 (by kernel_rfl) (by kernel_rfl) (by kernel_rfl) (by kernel_rfl)) laidOut (by kernel_rfl) rfl (by rfl) Try.underlying4
    (fun ds h => match ds, h with | [d0, d1, d2], _ => ⟨rfl, rfl, rfl⟩) (walks enc)

theorem over : Rows.diskMoreRow.holds Try.pinned (OpenSpec.ofChange Rows.diskMoreSpec) :=
  OpenClaim.holds_of_wide 8 Try.f8 rfl rfl rfl rfl rfl rfl rfl ⟨rfl, rfl, rfl, rfl, rfl⟩ rfl rfl rfl rfl rfl (by kernel_rfl) Try.func8 (by kernel_rfl)
    (of_decide_eq_true (by kernel_rfl)) (by unfold Func.isWrapper; first | (rw [if_pos (by decide +kernel)]; kernel_rfl) | (rw [if_neg (by decide +kernel)]; exact ⟨rfl, rfl⟩))
    (fun os started H enc _ => lifted os started H enc)

/-- the statement -/
theorem proved : Rows.DiskMoreSaid := over
end Go.Proofs.Ytheocdfccdpmbaa.lawDiskMore
