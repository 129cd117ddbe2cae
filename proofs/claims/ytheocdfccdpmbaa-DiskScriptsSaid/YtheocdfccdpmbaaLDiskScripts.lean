/-
  DiskScripts: every script leaves the files that the document says.
  No condition.
-/
import Derived.Test.YtheocdfccdpmbaaDkZ
import Derived.BigQuiet
import Derived.Deep.Cut
import Derived.Deep.RegionHeld3
import Derived.Deep.DeepCutAuto
namespace Go.Proofs.Ytheocdfccdpmbaa.lawDiskScripts
open Go.ChangeShapes Go.WideShapes Go.ChangeAt Go.RowKit Go.Deep Go.Maps
set_option linter.unusedVariables false
set_option linter.unusedSimpArgs false
set_option maxHeartbeats 8000000

set_option maxRecDepth 100000 in
theorem walk (A : Option Addr) (cap : Nat) (xs : List DoG) (w : World) (hR : Hid (RdL layDo w A xs)) (hG : Hid (∀ i, i < xs.length → (xs.getD i default).Ok w)) (hlx : xs.length ≤ 20000000000000) :
    Calls Try.prog 5 #[.slice A xs.length cap] w fun e w' => e = .returned (.bool true) ∧ Below w.heap.size w w' := by
  have HLX := Lib.hid hlx
  clear hlx
  go_enter Try.func5, Try.ntmps5
  go_wp2_with fail
  refine (disk_awake w).mono ?_
  rintro e w0 ⟨rfl, hb0⟩
  have HB0 := Lib.hid (Sp.keep (Sp.nil w) hb0)
  clear hb0
  go_wp2_with fail
  refine (new_g HB0).mono ?_
  rintro e w1 ⟨g, rfl, h1⟩
  have H1 : Hid (Sp w (dkT g DkG.new :: [rfT w1.heap.size DkG.new]) (w1.alloc (.cells #[.slice none 0 0, .slice none 0 0] 46))) := Lib.hid ((rnew_g h1).perm (List.Perm.swap ..))
  clear h1 HB0
  go_upto_region 5 with (fail)
  generalize w1.heap.size = gr at *
  generalize w1.alloc (.cells #[.slice none 0 0, .slice none 0 0] 46) = w2 at *
  go_wp2_with fail
  go_loopg [5, 6, 7, 8, 9, 10, 11, 12, 38, 45, 53, 59] (min xs.length 200) (fun n v5 v6 v7 v8 v9 v10 v11 v12 v38 v45 v53 v59 W => ∃ (k : Nat) (S : DkG), v5 = .int .i64 k ∧ n + k = min xs.length 200 ∧ Hid (Sp w (dkT g S :: [rfT gr S]) W) ∧ Hid (S.uns ≤ k ∧ S.L.length ≤ k))
  case atStart => exact ⟨0, DkG.new, rfl, rfl, H1, Lib.hid ⟨by decide +kernel, Nat.le_refl _⟩⟩
  case round =>
    clear H1
    obtain ⟨k, S, rfl, hnk, HS, HU⟩ := hrel
    by_cases hlt : k < xs.length ∧ k < 200
    · have hk1 : (k : Int) < (xs.length : Int) := by omega
      have hk2 : (k : Int) < 200 := by omega
      have hg : 0 < gk := by omega
      have hk3 : (k : Int) + 1 ≤ 9223372036854775807 := by omega
      obtain ⟨b, off, hAe, -, e0, e1, e2, e3, e4⟩ := (hR.out.bel HS.out.bel).dg k hlt.1
      have HOK : Hid (∀ W, Below w.heap.size w W → (xs.getD k default).Ok W) := Lib.hid (fun W hW => (hG.out k hlt.1).bel hW)
      obtain ⟨⟨kd, nm, A2, c2, b2, kp2, tn2⟩, hd⟩ : ∃ d, d = xs.getD k default := ⟨_, rfl⟩
      rw [← hd] at e0 e1 e2 e3 e4 HOK
      have HAE := Lib.hid hAe
      have HN := Lib.hid hnk
      have HL2 := Lib.hid hlt
      have HNL : Hid (nm.size ≤ maxLen) := Lib.hid ((HOK.out w (Below.refl _ _)).nm2)
      have HNZ : Hid (nm.size ≤ 4611686018427387904) := Lib.hid (by have := (HOK.out w (Below.refl _ _)).nl; simp only at this; omega)
      have HBZ : Hid (b2.length ≤ 4611686018427387904) := Lib.hid (by have := (HOK.out w (Below.refl _ _)).bl; simp only at this; omega)
      have HRB : Hid (RdL layB w A2 b2) := Lib.hid ((HOK.out w (Below.refl _ _)).rd)
      simp only at e0 e1 e2 e3 e4
      have HBX := Lib.hid (HS.out.alloc #[.int .i64 kd, .string nm, .slice A2 b2.length c2, .int .i64 kp2, .int .i64 tn2] 49)
      have HLS : Hid (S.L.length ≤ 1000000) := Lib.hid (by have := HU.out; have := HL2.out; omega)
      have HUU : Hid (S.uns ≤ 900000) := Lib.hid (by have := HU.out; have := HL2.out; omega)
      have HU2 : Hid ((S.does ⟨kd, nm, A2, c2, b2, kp2, tn2⟩).uns ≤ k + 1 ∧ (S.does ⟨kd, nm, A2, c2, b2, kp2, tn2⟩).L.length ≤ k + 1) := Lib.hid ⟨by have := DkG.uns_does S ⟨kd, nm, A2, c2, b2, kp2, tn2⟩; have := HU.out; omega, by have := DkG.len_does S ⟨kd, nm, A2, c2, b2, kp2, tn2⟩; have := HU.out; omega⟩
      clear hd hAe hnk hlt HS
      rw [HAE.out]
      go_upto_region 9 with (fail)
      rw [← HAE.out]
      generalize wr.heap.size = gz at *
      generalize wr.alloc (.cells #[.int .i64 kd, .string nm, .slice A2 b2.length c2, .int .i64 kp2, .int .i64 tn2] 49) = w2 at *
      have H2 : Hid (Sp w (rfT gr S :: dkT g S :: [blkT gz 49 #[.int .i64 kd, .string nm, .slice A2 b2.length c2, .int .i64 kp2, .int .i64 tn2]]) w2) := Lib.hid (HBX.out.perm (List.reverse_perm _).symm)
      have z2 : ∀ i, w2.cell? ⟨gz, i, none⟩ = (#[.int .i64 kd, .string nm, .slice A2 b2.length c2, .int .i64 kp2, .int .i64 tn2] : Array Value)[i]? := (Sp.blk HBX.out (List.mem_cons_self ..)).cells
      obtain ⟨x, hx⟩ : ∃ x, x = S.doE ⟨kd, nm, A2, c2, b2, kp2, tn2⟩ := ⟨_, rfl⟩
      obtain ⟨S2, hS2⟩ : ∃ S2, S2 = S.does ⟨kd, nm, A2, c2, b2, kp2, tn2⟩ := ⟨_, rfl⟩
      rw [← hS2] at HU2
      have HX := Lib.hid hx
      have HS2 := Lib.hid hS2
      have hxx : (x != x) = false := by simp
      clear HBX e0 e1 e2 e3 e4 hx hS2
      by_cases k0 : kd = 0
      · subst k0
        have he2 : x = S.appE nm b2.length := by rw [HX.out]; unfold DkG.doE; exact if_pos rfl
        have hs2 : S2 = S.app nm b2 := by rw [HS2.out]; unfold DkG.does; exact if_pos rfl
        have HE2 := Lib.hid he2
        clear he2
        go_wp2_with fail
        refine (rappend_g H2 nm HNZ.out A2 c2 b2 HRB HBZ.out HLS.out).mono ?_
        have he2 := HE2.out
        rintro e w3 ⟨he, h3⟩
        rw [← he2] at he
        rw [← hs2] at h3
        subst he
        clear he2 hs2
        have H3 : Hid (Sp w (dkT g S :: rfT gr S2 :: [blkT gz 49 #[.int .i64 0, .string nm, .slice A2 b2.length c2, .int .i64 kp2, .int .i64 tn2]]) w3) := Lib.hid (h3.perm (List.Perm.swap ..))
        have z3 : ∀ i, w3.cell? ⟨gz, i, none⟩ = (#[.int .i64 0, .string nm, .slice A2 b2.length c2, .int .i64 kp2, .int .i64 tn2] : Array Value)[i]? := (Sp.blk h3 (g := gz) (t := 49) (by simp)).cells
        clear h3 H2 z2
        go_wp2_with fail
        refine (does_g H3 ⟨0, nm, A2, c2, b2, kp2, tn2⟩ (Lib.hid (HOK.out _ H3.out.bel)) HUU.out).mono ?_
        rintro e w4 ⟨he, h4⟩
        rw [← HX.out] at he
        rw [← HS2.out] at h4
        subst he
        have H4 := Lib.hid h4
        have z4 : ∀ i, w4.cell? ⟨gz, i, none⟩ = (#[.int .i64 0, .string nm, .slice A2 b2.length c2, .int .i64 kp2, .int .i64 tn2] : Array Value)[i]? := (Sp.blk h4 (g := gz) (t := 49) (by simp)).cells
        clear h4 H3 z3
        go_wp2_with fail
        refine (read_g H4 nm HNL.out).mono ?_
        rintro e w5 ⟨A5, c5, he, o5, b5⟩
        obtain ⟨te, hte⟩ : ∃ te, te = Dk.thereE S2.F nm := ⟨_, rfl⟩
        have HTE := Lib.hid hte
        rw [← hte] at he
        subst he
        have H5 : Hid (Sp w (rfT gr S2 :: ownT layB 5 (.slice A5 (S2.read nm).length c5) (S2.read nm) :: dkT g S2 :: [blkT gz 49 #[.int .i64 0, .string nm, .slice A2 b2.length c2, .int .i64 kp2, .int .i64 tn2]]) w5) := Lib.hid ((H4.out.row b5 o5).perm ((((List.Perm.swap ..).cons _)).trans (List.Perm.swap ..)))
        have z5 : ∀ i, w5.cell? ⟨gz, i, none⟩ = (#[.int .i64 0, .string nm, .slice A2 b2.length c2, .int .i64 kp2, .int .i64 tn2] : Array Value)[i]? := (Sp.blk H5.out (g := gz) (t := 49) (by simp)).cells
        have HL2S : Hid (S2.L.length ≤ 1000000) := Lib.hid (by have := HU2.out; have := HL2.out; omega)
        clear o5 b5 H4 z4 hte
        go_wp2_with fail
        refine (rread_g H5 nm HL2S.out).mono ?_
        rintro e w6 ⟨A6, c6, he, o6, b6⟩
        rw [← HTE.out] at he
        subst he
        have H6 := Lib.hid (H5.out.row b6 o6)
        have vy := convO o6
        have vx := convO (H6.out.own (L := layB) (e := 5) (v := .slice A5 (S2.read nm).length c5) (xs := S2.read nm) (by simp))
        have htt : (te != te) = false := by simp
        have hss : ((Dk.mkB (S2.read nm)).toList != (Dk.mkB (S2.read nm)).toList) = false := by simp
        have H7 : Hid (Sp w (dkT g S2 :: [rfT gr S2]) w6) := Lib.hid (by
          have h := H6.out.tail
          have h2 := h.perm (List.reverse_perm _).symm
          have h3 : Sp w (blkT gz 49 #[.int .i64 0, .string nm, .slice A2 b2.length c2, .int .i64 kp2, .int .i64 tn2] :: dkT g S2 :: ownT layB 5 (.slice A5 (S2.read nm).length c5) (S2.read nm) :: [rfT gr S2]) w6 := h2
          exact (h3.tail.perm (List.Perm.swap ..)).tail)
        clear o6 b6 H5 z5 H6
        obtain ⟨un, hun⟩ : ∃ un, un = S2.uns := ⟨_, rfl⟩
        have HUN := Lib.hid hun
        have huu : ((un : Int) != (un : Int)) = false := by simp
        clear hun
        go_wp2_with fail
        refine (waiting_g H7).mono ?_
        rintro e w7 ⟨he, rfl⟩
        rw [← HUN.out] at he
        subst he
        go_wp2_with fail
        refine (rwaiting_g (Lib.hid (H7.out.perm (List.Perm.swap ..))) HL2S.out).mono ?_
        rintro e w7 ⟨he, rfl⟩
        rw [← HUN.out] at he
        subst he
        clear vx vy
        go_wp2_with fail
        go_roundg (gk - 1)
        case rel => exact ⟨k + 1, S2, by go_num, by have := HN.out; omega, H7, HU2⟩
        case measure => omega
      · have b0 : (kd == 0) = false := by simpa using k0
        have K0 := Lib.hid k0
        clear k0
        by_cases k1 : kd = 1
        · subst k1
          have he2 : x = Dk.thereE S.F nm := by rw [HX.out]; unfold DkG.doE; rw [if_neg (show ¬ (1 : Int) = 0 by decide), if_pos rfl]
          have hs2 : S2 = S.sync nm := by rw [HS2.out]; unfold DkG.does; rw [if_neg (show ¬ (1 : Int) = 0 by decide), if_pos rfl]
          have HE2 := Lib.hid he2
          clear he2 b0
          go_wp2_with fail
          refine (rsync_g H2 nm HLS.out).mono ?_
          have he2 := HE2.out
          rintro e w3 ⟨he, h3⟩
          rw [← he2] at he
          rw [← hs2] at h3
          subst he
          clear he2 hs2
          have H3 : Hid (Sp w (dkT g S :: rfT gr S2 :: [blkT gz 49 #[.int .i64 1, .string nm, .slice A2 b2.length c2, .int .i64 kp2, .int .i64 tn2]]) w3) := Lib.hid (h3.perm (List.Perm.swap ..))
          have z3 : ∀ i, w3.cell? ⟨gz, i, none⟩ = (#[.int .i64 1, .string nm, .slice A2 b2.length c2, .int .i64 kp2, .int .i64 tn2] : Array Value)[i]? := (Sp.blk h3 (g := gz) (t := 49) (by simp)).cells
          clear h3 H2 z2
          go_wp2_with fail
          refine (does_g H3 ⟨1, nm, A2, c2, b2, kp2, tn2⟩ (Lib.hid (HOK.out _ H3.out.bel)) HUU.out).mono ?_
          rintro e w4 ⟨he, h4⟩
          rw [← HX.out] at he
          rw [← HS2.out] at h4
          subst he
          have H4 := Lib.hid h4
          have z4 : ∀ i, w4.cell? ⟨gz, i, none⟩ = (#[.int .i64 1, .string nm, .slice A2 b2.length c2, .int .i64 kp2, .int .i64 tn2] : Array Value)[i]? := (Sp.blk h4 (g := gz) (t := 49) (by simp)).cells
          clear h4 H3 z3
          go_wp2_with fail
          refine (read_g H4 nm HNL.out).mono ?_
          rintro e w5 ⟨A5, c5, he, o5, b5⟩
          obtain ⟨te, hte⟩ : ∃ te, te = Dk.thereE S2.F nm := ⟨_, rfl⟩
          have HTE := Lib.hid hte
          rw [← hte] at he
          subst he
          have H5 : Hid (Sp w (rfT gr S2 :: ownT layB 5 (.slice A5 (S2.read nm).length c5) (S2.read nm) :: dkT g S2 :: [blkT gz 49 #[.int .i64 1, .string nm, .slice A2 b2.length c2, .int .i64 kp2, .int .i64 tn2]]) w5) := Lib.hid ((H4.out.row b5 o5).perm ((((List.Perm.swap ..).cons _)).trans (List.Perm.swap ..)))
          have z5 : ∀ i, w5.cell? ⟨gz, i, none⟩ = (#[.int .i64 1, .string nm, .slice A2 b2.length c2, .int .i64 kp2, .int .i64 tn2] : Array Value)[i]? := (Sp.blk H5.out (g := gz) (t := 49) (by simp)).cells
          have HL2S : Hid (S2.L.length ≤ 1000000) := Lib.hid (by have := HU2.out; have := HL2.out; omega)
          clear o5 b5 H4 z4 hte
          go_wp2_with fail
          refine (rread_g H5 nm HL2S.out).mono ?_
          rintro e w6 ⟨A6, c6, he, o6, b6⟩
          rw [← HTE.out] at he
          subst he
          have H6 := Lib.hid (H5.out.row b6 o6)
          have vy := convO o6
          have vx := convO (H6.out.own (L := layB) (e := 5) (v := .slice A5 (S2.read nm).length c5) (xs := S2.read nm) (by simp))
          have htt : (te != te) = false := by simp
          have hss : ((Dk.mkB (S2.read nm)).toList != (Dk.mkB (S2.read nm)).toList) = false := by simp
          have H7 : Hid (Sp w (dkT g S2 :: [rfT gr S2]) w6) := Lib.hid (by
            have h := H6.out.tail
            have h2 := h.perm (List.reverse_perm _).symm
            have h3 : Sp w (blkT gz 49 #[.int .i64 1, .string nm, .slice A2 b2.length c2, .int .i64 kp2, .int .i64 tn2] :: dkT g S2 :: ownT layB 5 (.slice A5 (S2.read nm).length c5) (S2.read nm) :: [rfT gr S2]) w6 := h2
            exact (h3.tail.perm (List.Perm.swap ..)).tail)
          clear o6 b6 H5 z5 H6
          obtain ⟨un, hun⟩ : ∃ un, un = S2.uns := ⟨_, rfl⟩
          have HUN := Lib.hid hun
          have huu : ((un : Int) != (un : Int)) = false := by simp
          clear hun
          go_wp2_with fail
          refine (waiting_g H7).mono ?_
          rintro e w7 ⟨he, rfl⟩
          rw [← HUN.out] at he
          subst he
          go_wp2_with fail
          refine (rwaiting_g (Lib.hid (H7.out.perm (List.Perm.swap ..))) HL2S.out).mono ?_
          rintro e w7 ⟨he, rfl⟩
          rw [← HUN.out] at he
          subst he
          clear vx vy
          go_wp2_with fail
          go_roundg (gk - 1)
          case rel => exact ⟨k + 1, S2, by go_num, by have := HN.out; omega, H7, HU2⟩
          case measure => omega
        · have b1 : (kd == 1) = false := by simpa using k1
          have K1 := Lib.hid k1
          clear k1
          by_cases k2 : kd = 2
          · subst k2
            have he2 : x = Dk.thereE S.F nm := by rw [HX.out]; unfold DkG.doE; rw [if_neg (show ¬ (2 : Int) = 0 by decide), if_neg (show ¬ (2 : Int) = 1 by decide), if_pos rfl]
            have hs2 : S2 = S.rem nm := by rw [HS2.out]; unfold DkG.does; rw [if_neg (show ¬ (2 : Int) = 0 by decide), if_neg (show ¬ (2 : Int) = 1 by decide), if_pos rfl]
            have HE2 := Lib.hid he2
            clear he2 b0 b1
            go_wp2_with fail
            refine (rremove_g H2 nm HLS.out).mono ?_
            have he2 := HE2.out
            rintro e w3 ⟨he, h3⟩
            rw [← he2] at he
            rw [← hs2] at h3
            subst he
            clear he2 hs2
            have H3 : Hid (Sp w (dkT g S :: rfT gr S2 :: [blkT gz 49 #[.int .i64 2, .string nm, .slice A2 b2.length c2, .int .i64 kp2, .int .i64 tn2]]) w3) := Lib.hid (h3.perm (List.Perm.swap ..))
            have z3 : ∀ i, w3.cell? ⟨gz, i, none⟩ = (#[.int .i64 2, .string nm, .slice A2 b2.length c2, .int .i64 kp2, .int .i64 tn2] : Array Value)[i]? := (Sp.blk h3 (g := gz) (t := 49) (by simp)).cells
            clear h3 H2 z2
            go_wp2_with fail
            refine (does_g H3 ⟨2, nm, A2, c2, b2, kp2, tn2⟩ (Lib.hid (HOK.out _ H3.out.bel)) HUU.out).mono ?_
            rintro e w4 ⟨he, h4⟩
            rw [← HX.out] at he
            rw [← HS2.out] at h4
            subst he
            have H4 := Lib.hid h4
            have z4 : ∀ i, w4.cell? ⟨gz, i, none⟩ = (#[.int .i64 2, .string nm, .slice A2 b2.length c2, .int .i64 kp2, .int .i64 tn2] : Array Value)[i]? := (Sp.blk h4 (g := gz) (t := 49) (by simp)).cells
            clear h4 H3 z3
            go_wp2_with fail
            refine (read_g H4 nm HNL.out).mono ?_
            rintro e w5 ⟨A5, c5, he, o5, b5⟩
            obtain ⟨te, hte⟩ : ∃ te, te = Dk.thereE S2.F nm := ⟨_, rfl⟩
            have HTE := Lib.hid hte
            rw [← hte] at he
            subst he
            have H5 : Hid (Sp w (rfT gr S2 :: ownT layB 5 (.slice A5 (S2.read nm).length c5) (S2.read nm) :: dkT g S2 :: [blkT gz 49 #[.int .i64 2, .string nm, .slice A2 b2.length c2, .int .i64 kp2, .int .i64 tn2]]) w5) := Lib.hid ((H4.out.row b5 o5).perm ((((List.Perm.swap ..).cons _)).trans (List.Perm.swap ..)))
            have z5 : ∀ i, w5.cell? ⟨gz, i, none⟩ = (#[.int .i64 2, .string nm, .slice A2 b2.length c2, .int .i64 kp2, .int .i64 tn2] : Array Value)[i]? := (Sp.blk H5.out (g := gz) (t := 49) (by simp)).cells
            have HL2S : Hid (S2.L.length ≤ 1000000) := Lib.hid (by have := HU2.out; have := HL2.out; omega)
            clear o5 b5 H4 z4 hte
            go_wp2_with fail
            refine (rread_g H5 nm HL2S.out).mono ?_
            rintro e w6 ⟨A6, c6, he, o6, b6⟩
            rw [← HTE.out] at he
            subst he
            have H6 := Lib.hid (H5.out.row b6 o6)
            have vy := convO o6
            have vx := convO (H6.out.own (L := layB) (e := 5) (v := .slice A5 (S2.read nm).length c5) (xs := S2.read nm) (by simp))
            have htt : (te != te) = false := by simp
            have hss : ((Dk.mkB (S2.read nm)).toList != (Dk.mkB (S2.read nm)).toList) = false := by simp
            have H7 : Hid (Sp w (dkT g S2 :: [rfT gr S2]) w6) := Lib.hid (by
              have h := H6.out.tail
              have h2 := h.perm (List.reverse_perm _).symm
              have h3 : Sp w (blkT gz 49 #[.int .i64 2, .string nm, .slice A2 b2.length c2, .int .i64 kp2, .int .i64 tn2] :: dkT g S2 :: ownT layB 5 (.slice A5 (S2.read nm).length c5) (S2.read nm) :: [rfT gr S2]) w6 := h2
              exact (h3.tail.perm (List.Perm.swap ..)).tail)
            clear o6 b6 H5 z5 H6
            obtain ⟨un, hun⟩ : ∃ un, un = S2.uns := ⟨_, rfl⟩
            have HUN := Lib.hid hun
            have huu : ((un : Int) != (un : Int)) = false := by simp
            clear hun
            go_wp2_with fail
            refine (waiting_g H7).mono ?_
            rintro e w7 ⟨he, rfl⟩
            rw [← HUN.out] at he
            subst he
            go_wp2_with fail
            refine (rwaiting_g (Lib.hid (H7.out.perm (List.Perm.swap ..))) HL2S.out).mono ?_
            rintro e w7 ⟨he, rfl⟩
            rw [← HUN.out] at he
            subst he
            clear vx vy
            go_wp2_with fail
            go_roundg (gk - 1)
            case rel => exact ⟨k + 1, S2, by go_num, by have := HN.out; omega, H7, HU2⟩
            case measure => omega
          · have b22 : (kd == 2) = false := by simpa using k2
            have K2 := Lib.hid k2
            clear k2
            have he2 : x = 0 := by rw [HX.out]; unfold DkG.doE; rw [if_neg K0.out, if_neg K1.out, if_neg K2.out]
            have hs2 : S2 = S.crash kp2 tn2 := by rw [HS2.out]; unfold DkG.does; rw [if_neg K0.out, if_neg K1.out, if_neg K2.out]
            have HE2 := Lib.hid he2
            clear he2
            go_wp2_with fail
            refine (rcrash_g H2 HLS.out kp2 tn2).mono ?_
            rintro e w3 ⟨rfl, h3⟩
            rw [← hs2] at h3
            clear hs2
            obtain rfl := HE2.out
            have H3 : Hid (Sp w (dkT g S :: rfT gr S2 :: [blkT gz 49 #[.int .i64 kd, .string nm, .slice A2 b2.length c2, .int .i64 kp2, .int .i64 tn2]]) w3) := Lib.hid (h3.perm (List.Perm.swap ..))
            have z3 : ∀ i, w3.cell? ⟨gz, i, none⟩ = (#[.int .i64 kd, .string nm, .slice A2 b2.length c2, .int .i64 kp2, .int .i64 tn2] : Array Value)[i]? := (Sp.blk h3 (g := gz) (t := 49) (by simp)).cells
            clear h3 H2 z2
            go_wp2_with fail
            refine (does_g H3 ⟨kd, nm, A2, c2, b2, kp2, tn2⟩ (Lib.hid (HOK.out _ H3.out.bel)) HUU.out).mono ?_
            rintro e w4 ⟨he, h4⟩
            rw [← HX.out] at he
            rw [← HS2.out] at h4
            subst he
            have H4 := Lib.hid h4
            have z4 : ∀ i, w4.cell? ⟨gz, i, none⟩ = (#[.int .i64 kd, .string nm, .slice A2 b2.length c2, .int .i64 kp2, .int .i64 tn2] : Array Value)[i]? := (Sp.blk h4 (g := gz) (t := 49) (by simp)).cells
            clear h4 H3 z3
            go_wp2_with fail
            refine (read_g H4 nm HNL.out).mono ?_
            rintro e w5 ⟨A5, c5, he, o5, b5⟩
            obtain ⟨te, hte⟩ : ∃ te, te = Dk.thereE S2.F nm := ⟨_, rfl⟩
            have HTE := Lib.hid hte
            rw [← hte] at he
            subst he
            have H5 : Hid (Sp w (rfT gr S2 :: ownT layB 5 (.slice A5 (S2.read nm).length c5) (S2.read nm) :: dkT g S2 :: [blkT gz 49 #[.int .i64 kd, .string nm, .slice A2 b2.length c2, .int .i64 kp2, .int .i64 tn2]]) w5) := Lib.hid ((H4.out.row b5 o5).perm ((((List.Perm.swap ..).cons _)).trans (List.Perm.swap ..)))
            have z5 : ∀ i, w5.cell? ⟨gz, i, none⟩ = (#[.int .i64 kd, .string nm, .slice A2 b2.length c2, .int .i64 kp2, .int .i64 tn2] : Array Value)[i]? := (Sp.blk H5.out (g := gz) (t := 49) (by simp)).cells
            have HL2S : Hid (S2.L.length ≤ 1000000) := Lib.hid (by have := HU2.out; have := HL2.out; omega)
            clear o5 b5 H4 z4 hte
            go_wp2_with fail
            refine (rread_g H5 nm HL2S.out).mono ?_
            rintro e w6 ⟨A6, c6, he, o6, b6⟩
            rw [← HTE.out] at he
            subst he
            have H6 := Lib.hid (H5.out.row b6 o6)
            have vy := convO o6
            have vx := convO (H6.out.own (L := layB) (e := 5) (v := .slice A5 (S2.read nm).length c5) (xs := S2.read nm) (by simp))
            have htt : (te != te) = false := by simp
            have hss : ((Dk.mkB (S2.read nm)).toList != (Dk.mkB (S2.read nm)).toList) = false := by simp
            have H7 : Hid (Sp w (dkT g S2 :: [rfT gr S2]) w6) := Lib.hid (by
              have h := H6.out.tail
              have h2 := h.perm (List.reverse_perm _).symm
              have h3 : Sp w (blkT gz 49 #[.int .i64 kd, .string nm, .slice A2 b2.length c2, .int .i64 kp2, .int .i64 tn2] :: dkT g S2 :: ownT layB 5 (.slice A5 (S2.read nm).length c5) (S2.read nm) :: [rfT gr S2]) w6 := h2
              exact (h3.tail.perm (List.Perm.swap ..)).tail)
            clear o6 b6 H5 z5 H6
            obtain ⟨un, hun⟩ : ∃ un, un = S2.uns := ⟨_, rfl⟩
            have HUN := Lib.hid hun
            have huu : ((un : Int) != (un : Int)) = false := by simp
            clear hun
            go_wp2_with fail
            refine (waiting_g H7).mono ?_
            rintro e w7 ⟨he, rfl⟩
            rw [← HUN.out] at he
            subst he
            go_wp2_with fail
            refine (rwaiting_g (Lib.hid (H7.out.perm (List.Perm.swap ..))) HL2S.out).mono ?_
            rintro e w7 ⟨he, rfl⟩
            rw [← HUN.out] at he
            subst he
            clear vx vy
            go_wp2_with fail
            go_roundg (gk - 1)
            case rel => exact ⟨k + 1, S2, by go_num, by have := HN.out; omega, H7, HU2⟩
            case measure => omega
    · have HLS : Hid (S.L.length ≤ 1000000) := Lib.hid (by have := HU.out; omega)
      have htest : (xs.length ≤ k) ∨ (k < xs.length ∧ 200 ≤ k) := by omega
      clear hlt hnk HU
      go_upto_region 6 with (fail)
      go_cut [30] (fun s W => s = .bool false ∧ W = wr)
      case first =>
        rcases htest with h | ⟨h, h2⟩
        · have hk1 : ¬ (k : Int) < (xs.length : Int) := by omega
          go_wp2_with fail
          go_meet
          exact ⟨rfl, rfl⟩
        · have hk1 : (k : Int) < (xs.length : Int) := by omega
          have hk2 : ¬ (k : Int) < 200 := by omega
          go_wp2_with fail
          go_meet
          exact ⟨rfl, rfl⟩
      case rest =>
        obtain ⟨rfl, rfl⟩ := hcut
        clear htest
        have HLN : Hid ((Dk.srt S.F).length ≤ 64) := Lib.hid srt_le
        have HIN : Hid (∀ j, j < (Dk.srt S.F).length → (Dk.srt S.F).getD j default ∈ S.F) := Lib.hid (fun j hj => DkG.srt_at hj)
        obtain ⟨Af, cf, Bf, df, hrf⟩ := Sp.openr (xs := Dk.srt S.F) (L := S.L) (l := [dkT g S]) (g := gr) (HS.out.perm (List.Perm.swap ..))
        obtain ⟨nl, hnl⟩ : ∃ nl, nl = Dk.srt S.F := ⟨_, rfl⟩
        have HNL := Lib.hid hnl
        rw [← hnl] at hrf HLN HIN
        have HP := Lib.hid hrf
        have HSD : Hid (∀ W, RfP w gr (.slice Af nl.length cf) (.slice Bf S.L.length df) (.slice Af nl.length cf) nl (.slice Bf S.L.length df) S.L [dkT g S] W → Sp w (dkT g S :: [rfT gr S]) W) := Lib.hid (fun W h => by
          have h2 := RfP.close h
          rw [hnl] at h2
          exact Sp.perm h2 (List.Perm.swap ..))
        have HD0 : Hid (Sp w (dkT g S :: [rfT gr S]) wc.drew) := Lib.hid (HS.out.keep (bel_drew (Below.refl _ _)))
        have HPD := Lib.hid (HP.out.keep (bel_drew (Below.refl wc.heap.size wc)))
        have c0 : ∀ i, wc.cell? ⟨gr, i, none⟩ = (#[.slice Af nl.length cf, .slice Bf S.L.length df] : Array Value)[i]? := HP.out.blk.cells
        clear hrf HS hnl
        go_wp2_with fail
        go_region_held3 (fun W => W.cell? ⟨gr, 0, none⟩ = some (.slice Af nl.length cf)) (go_keep) (first
          | (go_at_call 31; refine (texts_calls An Af cn cf nl nl _ (Lib.hid (Sp.rd HP5.out (L := layN) (e := 9) (n := nl.length) (c := cn) (by simp))) (Lib.hid (Sp.rd HP5.out (L := layN) (e := 9) (n := nl.length) (c := cf) (by simp))) (by have := HLN.out; omega) (by have := HLN.out; omega)).mono ?_; rintro e w6 ⟨he, b6⟩; obtain rfl : e = .returned (.bool true) := he.trans (ret_bool (decide_eq_true rfl)); clear he; have HP6 := Lib.hid (HP5.out.keep b6); have c6 : w6.cell? ⟨gr, 0, none⟩ = some (.slice Af nl.length cf) := HP6.out.blk.cells 0; clear b6)
          | (go_at_call 32; refine (names_g HD0).mono ?_; rintro e w5 ⟨An, cn, he, o5, b5⟩; rw [← HNL.out] at he o5; subst he; have HP5 : Hid (RfP w gr (.slice Af nl.length cf) (.slice Bf S.L.length df) (.slice Af nl.length cf) nl (.slice Bf S.L.length df) S.L (ownT layN 9 (.slice An nl.length cn) nl :: [dkT g S]) w5) := Lib.hid (Sp.perm (Sp.row HPD.out b5 o5) (List.perm_middle (l₁ := [_, _, _])).symm); have c5 : w5.cell? ⟨gr, 0, none⟩ = some (.slice Af nl.length cf) := HP5.out.blk.cells 0; clear o5 b5))
        have HP7 : Hid (RfP w gr (.slice Af nl.length cf) (.slice Bf S.L.length df) (.slice Af nl.length cf) nl (.slice Bf S.L.length df) S.L [dkT g S] w6) := Lib.hid ((Sp.perm HP6.out (List.perm_middle (l₁ := [_, _, _]))).tail)
        clear HP6 HP5 c5 c6 c0 HPD HD0 HP
        go_wp2_with fail
        go_loopg [13, 14, 15, 16, 17] nl.length (fun n v13 v14 v15 v16 v17 W => ∃ j : Nat, v13 = .int .i64 j ∧ n + j = nl.length ∧ Hid (RfP w gr (.slice Af nl.length cf) (.slice Bf S.L.length df) (.slice Af nl.length cf) nl (.slice Bf S.L.length df) S.L [dkT g S] W))
        case atStart => exact ⟨0, rfl, rfl, HP7⟩
        case round =>
          clear HP7
          obtain ⟨j, rfl, hnj, HP⟩ := hrel
          have c1 : ∀ i, wr.cell? ⟨gr, i, none⟩ = (#[.slice Af nl.length cf, .slice Bf S.L.length df] : Array Value)[i]? := HP.out.blk.cells
          by_cases hlt : j < nl.length
          · have hji : (j : Int) < (nl.length : Int) := by omega
            have hg : 0 < gk := by omega
            have hj1 : (j : Int) + 1 ≤ 9223372036854775807 := by have := HLN.out; omega
            obtain ⟨b, off, hAe, -, e0⟩ := (Sp.rd HP.out (L := layN) (e := 9) (A := Af) (n := nl.length) (c := cf) (xs := nl) (by simp)).nm j hlt
            have HNF : Hid (nl.getD j default ∈ S.F) := Lib.hid (HIN.out j hlt)
            obtain ⟨nm, hnm⟩ : ∃ nm, nm = nl.getD j default := ⟨_, rfl⟩
            rw [← hnm] at e0 HNF
            have HNM := Lib.hid hnm
            have HN := Lib.hid hnj
            have HLT := Lib.hid hlt
            have HAE := Lib.hid hAe
            have HSW := Lib.hid (HSD.out _ HP.out)
            clear hnj hlt hAe hnm
            rw [HAE.out] at c1
            go_wp2_with fail
            refine (read_g HSW nm (DkG.nm_in HNF.out)).mono ?_
            rintro e w8 ⟨A8, c8, he, o8, b8⟩
            obtain ⟨t8, he⟩ : ∃ t8, e = .returned (.tuple #[.slice A8 (S.read nm).length c8, .int .i64 t8]) := ⟨_, he⟩
            subst he
            have HP8 := Lib.hid (HP.out.keep b8)
            have c8c : ∀ i, w8.cell? ⟨gr, i, none⟩ = (#[.slice Af nl.length cf, .slice Bf S.L.length df] : Array Value)[i]? := HP8.out.blk.cells
            have e8 := (Sp.rd HP8.out (L := layN) (e := 9) (A := Af) (n := nl.length) (c := cf) (xs := nl) (by simp)).nmAt HAE.out HLT.out
            rw [← HNM.out] at e8
            have HO8 := Lib.hid o8
            rw [HAE.out] at c8c
            clear o8 b8 HP e0 c1
            go_wp2_with fail
            refine (rread_g (Lib.hid ((HSD.out _ HP8.out).perm (List.Perm.swap ..))) nm HLS.out).mono ?_
            rintro e w9 ⟨A9, c9, he, o9, b9⟩
            obtain ⟨t9, he⟩ : ∃ t9, e = .returned (.tuple #[.slice A9 (S.read nm).length c9, .int .i64 t9]) := ⟨_, he⟩
            subst he
            have vx := convO (HO8.out.kept b9)
            have vy := convO o9
            have hss : ((Dk.mkB (S.read nm)).toList != (Dk.mkB (S.read nm)).toList) = false := by simp
            have HP9 := Lib.hid (HP8.out.keep b9)
            clear o9 b9 HP8 e8 c8c HO8
            go_wp2_with fail
            go_roundg (gk - 1)
            case rel => exact ⟨j + 1, by go_num, by have := HN.out; omega, HP9⟩
            case measure => omega
          · have hji : ¬ (j : Int) < (nl.length : Int) := by omega
            clear hnj hlt
            go_wp2_with fail
            go_ret
            exact ⟨rfl, Sp.bel HP.out⟩

set_option maxRecDepth 100000 in
theorem walks {H : Type} (enc : TypeId × Value → H) : Walks enc Try.prog 5 Try.f5 := by
  intro W base args ds ps hval hA hwt
  rw [Try.params5] at hA hval hwt
  obtain ⟨v0, vs0, d0, ds0, p0, q0, hargs, rfl, rfl, h0, r0⟩ := trodAll_cons hA
  obtain ⟨rfl, rfl, rfl⟩ := trodAll_nil r0
  obtain rfl : args = #[v0] := by cases args; simp_all
  obtain ⟨A, xs, cap, rfl, a1, b1, c1, g1⟩ := script_arg (hval 0 39 v0 rfl rfl) h0 (weightsEach_at (i := 0) hwt rfl rfl)
  exact walk A cap xs W (Lib.hid c1) (Lib.hid g1) (by omega)

set_option maxRecDepth 100000 in
theorem lifted (os : Os) (started : os.Started) (H : Type) (enc : TypeId × Value → H) :
    ReturnsInHanded {} Try.checked os 5 .any (Rows.diskScriptsSpec.pre6 enc Try.prog Try.f5 Rows.diskScriptsRow.domain false) (Rows.diskScriptsSpec.post enc Try.prog Try.f5 false true false false) :=
  frame_lifted (C := Try.checked) own started (by kernel_rfl) Try.func5
    (ChangeSpec.witness6 (enc := enc) (C := Try.checked) false ⟨#[], #[.slice none 0 0], []⟩ 8 (by kernel_rfl) (by kernel_rfl) (by kernel_rfl) (by kernel_rfl)) laidOut (by kernel_rfl) rfl (by rfl) Try.underlying4
    (fun ds h => match ds, h with | [d0], _ => ⟨rfl, rfl, rfl⟩) (walks enc)

theorem over : Rows.diskScriptsRow.holds Try.pinned (OpenSpec.ofChange Rows.diskScriptsSpec) :=
  OpenClaim.holds_of_wide 5 Try.f5 rfl rfl rfl rfl rfl rfl rfl ⟨rfl, rfl, rfl, rfl, rfl⟩ rfl rfl rfl rfl rfl (by kernel_rfl) Try.func5 (by kernel_rfl)
    (of_decide_eq_true (by kernel_rfl)) (by unfold Func.isWrapper; first | (rw [if_pos (by decide +kernel)]; kernel_rfl) | (rw [if_neg (by decide +kernel)]; exact ⟨rfl, rfl⟩))
    (fun os started H enc _ => lifted os started H enc)

/-- the statement -/
theorem proved : Rows.DiskScriptsSaid := over
end Go.Proofs.Ytheocdfccdpmbaa.lawDiskScripts
