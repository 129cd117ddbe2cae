/-
  DiskCrash: a crash keeps what was synced, and of the rest a beginning.
  No condition.
-/
import Derived.Test.YtheocdfccdpmbaaDkC
import Derived.BigQuiet
import Derived.Deep.Cut
import Derived.Deep.RegionHeld3
import Derived.Deep.DeepCutAuto
namespace Go.Proofs.Ytheocdfccdpmbaa.lawDiskCrash
open Go.ChangeShapes Go.WideShapes Go.ChangeAt Go.RowKit Go.Deep Go.Maps
set_option linter.unusedVariables false
set_option linter.unusedSimpArgs false
set_option maxHeartbeats 8000000

/-- what a step has become -/
def Done (S : DkG) (kd : Int) (nm : ByteArray) (b : List UInt8) (S2 : DkG) (ok : Bool) : Prop :=
  (ok = true → (kd = 0 ∧ S.appE nm b.length = 0 ∧ S2 = S.app nm b) ∨ (kd = 1 ∧ nm ∈ S.F ∧ S2 = S.sync nm)) ∧ (ok = false → S2 = S)
theorem sync0 {S : DkG} {nm : ByteArray} (h : nm ∉ S.F) : S.sync nm = S := if_neg h
/-- the rows of names and of what is synced -/
abbrev Rows2 (A8 : Option Addr) (c8 : Nat) (A9 : Option Addr) (c9 : Nat) (S : DkG) : List Thing := ownT layN 9 (.slice A8 S.F.length c8) S.F :: [ownT layN 9 (.slice A9 S.F.length c9) (S.F.map fun n => Dk.mkB (S.syn n))]

set_option maxRecDepth 100000 in
theorem walk (A : Option Addr) (cap : Nat) (xs : List DoG) (kp tn : Int) (w : World) (hR : Hid (RdL layDo w A xs)) (hG : Hid (∀ i, i < xs.length → (xs.getD i default).Ok w)) (hlx : xs.length ≤ 20000000000000) (hkb : -9223372036854775808 ≤ kp ∧ kp ≤ 9223372036854775807) :
    Calls Try.prog 6 #[.slice A xs.length cap, .int .i64 kp, .int .i64 tn] w fun e w' => e = .returned (.bool true) ∧ Below w.heap.size w w' := by
  have HLX := Lib.hid hlx
  clear hlx hkb
  go_enter Try.func6, Try.ntmps6
  go_wp2_with fail
  refine (disk_awake w).mono ?_
  rintro e w0 ⟨rfl, hb0⟩
  have HB0 := Lib.hid (Sp.keep (Sp.nil w) hb0)
  clear hb0
  go_wp2_with fail
  refine (new_g HB0).mono ?_
  rintro e w1 ⟨g, rfl, h1⟩
  have H1 : Hid (Sp w (dkT g DkG.new :: Rows2 none 0 none 0 DkG.new) w1) := Lib.hid ((h1.row0.row0).perm (perm3 _ _ _ _))
  clear h1 HB0
  go_wp2_with fail
  go_loopg [8, 9, 10, 11, 12, 13, 14, 15] (min xs.length 200) (fun n v8 v9 v10 v11 v12 v13 v14 v15 W => ∃ (k : Nat) (S : DkG) (A8 : Option Addr) (c8 : Nat) (A9 : Option Addr) (c9 : Nat), v10 = .int .i64 k ∧ v8 = .slice A8 S.F.length c8 ∧ v9 = .slice A9 S.F.length c9 ∧ n + k = min xs.length 200 ∧ Hid (Sp w (dkT g S :: Rows2 A8 c8 A9 c9 S) W) ∧ Hid (S.uns ≤ k))
  case atStart => exact ⟨0, DkG.new, none, 0, none, 0, rfl, rfl, rfl, rfl, H1, Lib.hid (by decide +kernel)⟩
  case round =>
    clear H1
    obtain ⟨k, S, A8, c8, A9, c9, rfl, rfl, rfl, hnk, HS, HU⟩ := hrel
    have HF64 := Lib.hid S.ok.f64
    by_cases hlt : k < xs.length ∧ k < 200
    · have hk1 : (k : Int) < (xs.length : Int) := by omega
      have hk2 : (k : Int) < 200 := by omega
      obtain ⟨gn, rfl⟩ : ∃ gn, gk = gn + 1 := ⟨gk - 1, by omega⟩
      have hk3 : (k : Int) + 1 ≤ 9223372036854775807 := by omega
      obtain ⟨b, off, hAe, -, e0, e1, e2, e3, e4⟩ := (hR.out.bel HS.out.bel).dg k hlt.1
      have HOK : Hid (∀ W, Below w.heap.size w W → (xs.getD k default).Ok W) := Lib.hid (fun W hW => (hG.out k hlt.1).bel hW)
      obtain ⟨⟨kd, nm, A2, c2, b2, kp2, tn2⟩, hd⟩ : ∃ d, d = xs.getD k default := ⟨_, rfl⟩
      rw [← hd] at e0 e1 e2 e3 e4 HOK
      have HAE := Lib.hid hAe
      have HN := Lib.hid hnk
      have HL2 := Lib.hid hlt
      simp only at e0 e1 e2 e3 e4
      have HBX := Lib.hid (HS.out.alloc #[.int .i64 kd, .string nm, .slice A2 b2.length c2, .int .i64 kp2, .int .i64 tn2] 49)
      clear hd hAe hnk hlt HS
      rw [HAE.out]
      go_upto_region 10 with (fail)
      rw [← HAE.out]
      generalize wr.heap.size = gz at *
      generalize wr.alloc (.cells #[.int .i64 kd, .string nm, .slice A2 b2.length c2, .int .i64 kp2, .int .i64 tn2] 49) = w2 at *
      have H2 : Hid (Sp w (dkT g S :: blkT gz 49 #[.int .i64 kd, .string nm, .slice A2 b2.length c2, .int .i64 kp2, .int .i64 tn2] :: Rows2 A8 c8 A9 c9 S) w2) := Lib.hid (HBX.out.perm (List.Perm.swap ..))
      have z0 : ∀ i, w2.cell? ⟨gz, i, none⟩ = (#[.int .i64 kd, .string nm, .slice A2 b2.length c2, .int .i64 kp2, .int .i64 tn2] : Array Value)[i]? := (Sp.blk HBX.out (List.mem_cons_self ..)).cells
      have HUU : Hid (S.uns ≤ 900000) := Lib.hid (by have := HU.out; have := HL2.out; omega)
      clear HBX e0 e1 e2 e3 e4
      go_cut [55] (fun s W => ∃ (no : Bool) (S2 : DkG), s = .bool no ∧ Hid (Sp w (dkT g S2 :: blkT gz 49 #[.int .i64 kd, .string nm, .slice A2 b2.length c2, .int .i64 kp2, .int .i64 tn2] :: Rows2 A8 c8 A9 c9 S) W) ∧ Hid (Done S kd nm b2 S2 (!no)))
      case first =>
        by_cases k0 : kd = 0
        · subst k0
          go_wp2_with fail
          refine (does_g H2 ⟨0, nm, A2, c2, b2, kp2, tn2⟩ (Lib.hid (HOK.out _ H2.out.bel)) HUU.out).mono ?_
          rintro e w3 ⟨he, h3⟩
          have he2 : S.doE ⟨0, nm, A2, c2, b2, kp2, tn2⟩ = S.appE nm b2.length := if_pos rfl
          have hs2 : S.does ⟨0, nm, A2, c2, b2, kp2, tn2⟩ = S.app nm b2 := if_pos rfl
          rw [he2] at he
          rw [hs2] at h3
          have H3 := Lib.hid h3
          clear he2 hs2 h3
          by_cases c : S.appE nm b2.length = 0
          · rw [c] at he
            subst he
            have HD : Hid (Done S 0 nm b2 (S.app nm b2) true) := Lib.hid ⟨fun _ => .inl ⟨rfl, c, rfl⟩, fun e => Bool.noConfusion e⟩
            clear c
            go_wp2_with fail
            go_meet
            exact ⟨false, _, rfl, H3, HD⟩
          · have hne : S.app nm b2 = S := DkG.app_no c
            rw [hne] at H3
            have HD : Hid (Done S 0 nm b2 S false) := Lib.hid ⟨fun e => Bool.noConfusion e, fun _ => rfl⟩
            have hb : (S.appE nm b2.length != 0) = true := by rw [bne_iff_ne]; exact c
            generalize S.appE nm b2.length = er at *
            subst he
            clear c hne
            go_wp2_with fail
            go_meet
            exact ⟨true, _, rfl, H3, HD⟩
        · have b0 : (kd != 0) = true := by rw [bne_iff_ne]; exact k0
          by_cases k1 : kd = 1
          · subst k1
            clear k0
            go_wp2_with fail
            refine (does_g H2 ⟨1, nm, A2, c2, b2, kp2, tn2⟩ (Lib.hid (HOK.out _ H2.out.bel)) HUU.out).mono ?_
            rintro e w3 ⟨he, h3⟩
            have he2 : S.doE ⟨1, nm, A2, c2, b2, kp2, tn2⟩ = Dk.thereE S.F nm := by unfold DkG.doE; rw [if_neg (show ¬ (1 : Int) = 0 by decide), if_pos rfl]
            have hs2 : S.does ⟨1, nm, A2, c2, b2, kp2, tn2⟩ = S.sync nm := by unfold DkG.does; rw [if_neg (show ¬ (1 : Int) = 0 by decide), if_pos rfl]
            rw [he2] at he
            rw [hs2] at h3
            have H3 := Lib.hid h3
            clear he2 hs2 h3
            by_cases c : nm ∈ S.F
            · rw [DkG.there_in c] at he
              subst he
              have HD : Hid (Done S 1 nm b2 (S.sync nm) true) := Lib.hid ⟨fun _ => .inr ⟨rfl, c, rfl⟩, fun e => Bool.noConfusion e⟩
              clear c
              go_wp2_with fail
              go_meet
              exact ⟨false, _, rfl, H3, HD⟩
            · rw [show Dk.thereE S.F nm = 80 from if_neg c] at he
              subst he
              rw [sync0 c] at H3
              have HD : Hid (Done S 1 nm b2 S false) := Lib.hid ⟨fun e => Bool.noConfusion e, fun _ => rfl⟩
              clear c
              go_wp2_with fail
              go_meet
              exact ⟨true, _, rfl, H3, HD⟩
          · have b1 : (kd != 1) = true := by rw [bne_iff_ne]; exact k1
            have HD : Hid (Done S kd nm b2 S false) := Lib.hid ⟨fun e => Bool.noConfusion e, fun _ => rfl⟩
            clear k0 k1
            go_wp2_with fail
            go_meet
            exact ⟨true, _, rfl, H2, HD⟩
      case rest =>
        obtain ⟨no, S2, rfl, H3, HD⟩ := hcut
        clear H2 z0
        cases no with
        | true =>
          have H4 : Hid (Sp w (dkT g S :: Rows2 A8 c8 A9 c9 S) wc) := Lib.hid (by
            have h := H3.out
            rw [HD.out.2 rfl] at h
            exact (h.perm (List.Perm.swap ..)).tail)
          have HU2 : Hid (S.uns ≤ k + 1) := Lib.hid (by have := HU.out; omega)
          clear H3 HD
          go_wp2_with fail
          go_roundg gn
          case rel => exact ⟨k + 1, S, A8, c8, A9, c9, by go_num, rfl, rfl, by have := HN.out; omega, H4, HU2⟩
          case measure => omega
        | false =>
          have HDN := Lib.hid (HD.out.1 rfl)
          have HU2 : Hid (S2.uns ≤ k + 1) := Lib.hid (by
            rcases HDN.out with ⟨-, -, e⟩ | ⟨-, -, e⟩
            · rw [e]; have := DkG.uns_app S nm b2; have := HU.out; omega
            · rw [e]; have := DkG.uns_sync S nm; have := HU.out; omega)
          clear HD HOK
          go_wp2_with fail
          go_loopg [12, 13] S.F.length (fun n v12 v13 W => ∃ (m : Nat) (at_ : Int), v13 = .int .i64 m ∧ v12 = .int .i64 at_ ∧ n + m = S.F.length ∧ Hid (Sp w (dkT g S2 :: blkT gz 49 #[.int .i64 kd, .string nm, .slice A2 b2.length c2, .int .i64 kp2, .int .i64 tn2] :: Rows2 A8 c8 A9 c9 S) W) ∧ Hid ((at_ = -1 ∧ ∀ j, j < m → S.F.getD j default ≠ nm) ∨ ∃ i : Nat, i < m ∧ at_ = i ∧ S.F.getD i default = nm))
          case atStart => exact ⟨0, -1, rfl, rfl, rfl, H3, Lib.hid (.inl ⟨rfl, fun j h => absurd h (Nat.not_lt_zero _)⟩)⟩
          case round =>
            clear H3
            obtain ⟨m, at_, rfl, rfl, hnm, HS, HAT⟩ := hrel
            have hf64 := HF64.out
            have z1 : ∀ i, wr.cell? ⟨gz, i, none⟩ = (#[.int .i64 kd, .string nm, .slice A2 b2.length c2, .int .i64 kp2, .int .i64 tn2] : Array Value)[i]? := (Sp.blk HS.out (t := 49) (by simp)).cells
            by_cases hml : m < S.F.length
            · have hmi : (m : Int) < (S.F.length : Int) := by omega
              have hg : 0 < gk := by omega
              have hm1 : (m : Int) + 1 ≤ 9223372036854775807 := by omega
              have hwm : IntKind.i64.wrap (m : Int) = (m : Int) := IntWalk.i64_in _ (by omega)
              obtain ⟨bn, on, hBe, -, en⟩ := (HS.out.rd (e := 9) (A := A8) (n := S.F.length) (c := c8) (xs := S.F) (by simp)).nm m hml
              obtain ⟨x, hx⟩ : ∃ x, x = S.F.getD m default := ⟨_, rfl⟩
              rw [← hx] at en
              have HX := Lib.hid hx
              have HBE := Lib.hid hBe
              have HNM := Lib.hid hnm
              clear hx hBe hml hnm hf64
              rw [HBE.out]
              by_cases c : x = nm
              · subst c
                have HAT2 : Hid (((m : Int) = -1 ∧ ∀ j, j < m + 1 → S.F.getD j default ≠ x) ∨ ∃ i : Nat, i < m + 1 ∧ (m : Int) = i ∧ S.F.getD i default = x) := Lib.hid (.inr ⟨m, by omega, rfl, HX.out.symm⟩)
                have hee : (x.toList == x.toList) = true := by simp
                go_wp2_with fail
                go_quiet (fail)
                go_wp2_with fail
                have H5 := Lib.hid (HS.out.keep (bel_drewN (Below.refl wr.heap.size wr) nq))
                rw [← HBE.out]
                go_roundg (gk - 1)
                case rel => exact ⟨m + 1, (m : Int), by go_num, rfl, by have := HNM.out; omega, H5, HAT2⟩
                case measure => omega
              · have HAT2 : Hid ((at_ = -1 ∧ ∀ j, j < m + 1 → S.F.getD j default ≠ nm) ∨ ∃ i : Nat, i < m + 1 ∧ at_ = i ∧ S.F.getD i default = nm) := Lib.hid (by
                  rcases HAT.out with ⟨h1, h2⟩ | ⟨i, h1, h2, h3⟩
                  · refine .inl ⟨h1, fun j hj => ?_⟩
                    rcases Nat.lt_or_ge j m with h | h
                    · exact h2 j h
                    · rw [show j = m from by omega, ← HX.out]; exact c
                  · exact .inr ⟨i, by omega, h2, h3⟩)
                have hee : (x.toList == nm.toList) = false := toList_ne c
                clear c
                go_wp2_with fail
                go_quiet (fail)
                go_wp2_with fail
                have H5 := Lib.hid (HS.out.keep (bel_drewN (Below.refl wr.heap.size wr) nq))
                rw [← HBE.out]
                go_roundg (gk - 1)
                case rel => exact ⟨m + 1, at_, by go_num, rfl, by have := HNM.out; omega, H5, HAT2⟩
                case measure => omega
            · have hmi : ¬ (m : Int) < (S.F.length : Int) := by omega
              have hme : m = S.F.length := by omega
              by_cases hF : nm ∈ S.F
              · obtain ⟨i, hi, rfl, hFi⟩ : ∃ i : Nat, i < S.F.length ∧ at_ = (i : Int) ∧ S.F.getD i default = nm := by
                  rcases HAT.out with ⟨h1, h2⟩ | ⟨i, h1, h2, h3⟩
                  · obtain ⟨j, hj, e⟩ := List.getElem_of_mem hF
                    exact absurd (show S.F.getD j default = nm by simp [List.getD, hj, e]) (h2 j (by omega))
                  · exact ⟨i, by omega, h2, h3⟩
                have hi0 : ¬ (i : Int) < 0 := by omega
                have HI := Lib.hid (And.intro hi hFi)
                have HF := Lib.hid hF
                have eF : S2.F = S.F := by
                  rcases HDN.out with ⟨-, h0, e⟩ | ⟨-, -, e⟩
                  · rw [e, DkG.app_F h0]; exact if_pos hF
                  · rw [e, DkG.sync_F]
                have HEF := Lib.hid eF
                clear hi hFi hF eF hnm hme hf64
                rcases HDN.out with ⟨rfl, h0, e2⟩ | ⟨rfl, -, e2⟩
                · have H6 : Hid (Sp w (dkT g S2 :: Rows2 A8 c8 A9 c9 S2) wr) := Lib.hid (by
                    have h := (HS.out.perm (List.Perm.swap ..)).tail
                    unfold Rows2
                    have es : (S2.F.map fun n => Dk.mkB (S2.syn n)) = S.F.map fun n => Dk.mkB (S.syn n) := by
                      rw [HEF.out]
                      refine List.map_congr_left fun n _ => ?_
                      rw [e2, DkG.app_syn]
                    rw [es, HEF.out]
                    exact h)
                  have q8 : (.slice A8 S.F.length c8 : Value) = .slice A8 S2.F.length c8 := by rw [HEF.out]
                  have q9 : (.slice A9 S.F.length c9 : Value) = .slice A9 S2.F.length c9 := by rw [HEF.out]
                  have Q89 := Lib.hid (And.intro q8 q9)
                  clear h0 e2 q8 q9
                  go_wp2_with fail
                  go_roundg gn
                  case rel => exact ⟨k + 1, S2, A8, c8, A9, c9, by go_num, Q89.out.1, Q89.out.2, by have := HN.out; omega, H6, HU2⟩
                  case measure => omega
                · have HE2 := Lib.hid e2
                  have HNL : Hid (nm.size ≤ maxLen) := Lib.hid (DkG.nm_in HF.out)
                  clear e2
                  go_wp2_with fail
                  refine (read_g HS nm HNL.out).mono ?_
                  rintro e w5 ⟨A5, c5, he, o5, b5⟩
                  have vb := convO o5
                  obtain ⟨te, he⟩ : ∃ te, e = .returned (.tuple #[.slice A5 (S2.read nm).length c5, .int .i64 te]) := ⟨_, he⟩
                  subst he
                  have H5 := Lib.hid (HS.out.keep b5)
                  have HOW : Hid (OwnL layN 9 w5 w.heap.size (.slice A9 S.F.length c9) (S.F.map fun n => Dk.mkB (S.syn n))) := Lib.hid (H5.out.own (by simp))
                  have hA9 : ∃ g9, A9 = some ⟨g9, 0, none⟩ := by
                    rcases HOW.out.2 with ⟨e, h0⟩ | ⟨g9, cap9, cur9, e, -⟩
                    · have := HI.out.1
                      rw [List.length_map] at h0
                      omega
                    · obtain ⟨q1, -, -⟩ := Value.slice.inj e
                      exact ⟨g9, q1⟩
                  obtain ⟨g9, rfl⟩ := hA9
                  have f9 : w5.frozen? ⟨g9, i, none⟩ = false := HOW.out.freeN i
                  have d9 : ∃ v, w5.cell? ⟨g9, i, none⟩ = some v := by
                    obtain ⟨b', o', e', -, h'⟩ := (H5.out.rd (e := 9) (A := some ⟨g9, 0, none⟩) (n := S.F.length) (c := c9) (xs := S.F.map fun n => Dk.mkB (S.syn n)) (by simp)).nm i (by rw [List.length_map]; exact HI.out.1)
                    obtain ⟨q1, q2, -⟩ := Addr.mk.inj (Option.some.inj e')
                    subst q1; subst q2
                    rw [Nat.zero_add] at h'
                    exact ⟨_, h'⟩
                  obtain ⟨v9, d9⟩ := d9
                  have hii : (i : Int) < (S.F.length : Int) := by have := HI.out.1; omega
                  have H6 : Hid (Sp w (dkT g S2 :: Rows2 A8 c8 (some ⟨g9, 0, none⟩) c9 S2) (w5.setCell ⟨g9, i, none⟩ (.string (Dk.mkB (S2.read nm))))) := Lib.hid (by
                    have h := (H5.out.perm (List.Perm.swap ..)).tail
                    have h2 := h.perm (perm3 _ _ _ [])
                    have hp := (h2.own (List.mem_cons_self ..)).putN i (Dk.mkB (S2.read nm))
                    have h3 := h2.app hp.1 hp.2 (.inl rfl)
                    have es : (S.F.map fun n => Dk.mkB (S.syn n)).set i (Dk.mkB (S2.read nm)) = S.F.map fun n => Dk.mkB (S2.syn n) := by
                      have e1 : S2.read nm = S2.syn nm := by rw [HE2.out, DkG.sync_read, DkG.sync_syn HF.out, if_pos rfl]
                      rw [e1]
                      refine map_set S.ok.nd HI.out.1 HI.out.2 _ (fun n => Dk.mkB (S2.syn n)) rfl fun m hm => ?_
                      rw [HE2.out, DkG.sync_syn HF.out, if_neg hm]
                    rw [es] at h3
                    unfold Rows2
                    rw [HEF.out]
                    exact h3.perm (perm3 _ _ _ []).symm)
                  have q8 : (.slice A8 S.F.length c8 : Value) = .slice A8 S2.F.length c8 := by rw [HEF.out]
                  have q9 : (.slice (some ⟨g9, 0, none⟩) S.F.length c9 : Value) = .slice (some ⟨g9, 0, none⟩) S2.F.length c9 := by rw [HEF.out]
                  have Q89 := Lib.hid (And.intro q8 q9)
                  clear q8 q9 o5 b5 HS
                  go_wp2_with fail
                  go_roundg gn
                  case rel => exact ⟨k + 1, S2, A8, c8, some ⟨g9, 0, none⟩, c9, by go_num, Q89.out.1, Q89.out.2, by have := HN.out; omega, H6, HU2⟩
                  case measure => omega
              · have hat : at_ = -1 := by
                  rcases HAT.out with ⟨h1, h2⟩ | ⟨i, h1, h2, h3⟩
                  · exact h1
                  · refine absurd ?_ hF
                    rw [← h3]
                    have : i < S.F.length := by omega
                    simp [List.getD, this]
                subst hat
                obtain ⟨rfl, h0, e2⟩ : kd = 0 ∧ S.appE nm b2.length = 0 ∧ S2 = S.app nm b2 := by
                  rcases HDN.out with h | ⟨-, h, -⟩
                  · exact h
                  · exact absurd h hF
                have HEF : Hid (S2.F = S.F ++ [nm]) := Lib.hid (by rw [e2, DkG.app_F h0]; exact if_neg hF)
                have HES : Hid ((S.F.map fun n => Dk.mkB (S.syn n)) ++ [(⟨#[]⟩ : ByteArray)] = S2.F.map fun n => Dk.mkB (S2.syn n)) := Lib.hid (by
                  rw [HEF.out, List.map_append]
                  have e3 : ∀ n, S2.syn n = S.syn n := fun n => by rw [e2, DkG.app_syn]
                  simp only [e3]
                  rw [show [nm].map (fun n => Dk.mkB (S.syn n)) = [Dk.mkB (S.syn nm)] from rfl, DkG.syn_out hF]
                  rfl)
                have HSA : Hid (Sp w (ownT layN 9 (.slice A8 S.F.length c8) S.F :: dkT g S2 :: blkT gz 49 #[.int .i64 0, .string nm, .slice A2 b2.length c2, .int .i64 kp2, .int .i64 tn2] :: [ownT layN 9 (.slice A9 S.F.length c9) (S.F.map fun n => Dk.mkB (S.syn n))]) (wr.alloc (.cells #[.string nm] 9))) := Lib.hid ((HS.out.perm (perm3 _ _ _ _)).keep (bel_new (Below.refl wr.heap.size wr) _))
                have HRD := Lib.hid (rdL_litN wr nm)
                have HML : Hid ((S.F.map fun n => Dk.mkB (S.syn n)).length = S.F.length) := Lib.hid (by simp)
                clear hF hnm hme h0 e2 hf64 hml
                go_upto_region 20 with (at_builtin; refine wpList_appO8 (L := layN) 43 _ 16 Try.underlying43 infoN rfl rfl (.tmp 74) (.tmp 77) rfl w.heap.size (.slice A8 S.F.length c8) S.F rfl (HSA.out.own (List.mem_cons_self ..)) (some ⟨wr.heap.size, 0, none⟩) 1 1 [nm] rfl rfl HRD.out (by have := HF64.out; simp only [List.length_singleton, maxLen]; omega) (by have := HF64.out; simp only [List.length_singleton]; omega) HSA.out.size ?_; intro v6 w6 ho6 hg6 h36; obtain ⟨A6, c6, rfl⟩ := ho6.formN (n := S.F.length + 1) (by simp); have H6 := Lib.hid (HSA.out.app ho6 hg6 h36); clear ho6 hg6 h36)
                have HSB : Hid (Sp w (ownT layN 9 (.slice A9 S.F.length c9) (S.F.map fun n => Dk.mkB (S.syn n)) :: ownT layN 9 (.slice A6 (S.F.length + 1) c6) (S.F ++ [nm]) :: dkT g S2 :: [blkT gz 49 #[.int .i64 0, .string nm, .slice A2 b2.length c2, .int .i64 kp2, .int .i64 tn2]]) (w6.alloc (.cells #[.string ⟨#[]⟩] 9))) := Lib.hid ((H6.out.perm (perm4 _ _ _ _ [])).keep (bel_new (Below.refl w6.heap.size w6) _))
                have z6 : ∀ i, w6.cell? ⟨gz, i, none⟩ = (#[.int .i64 0, .string nm, .slice A2 b2.length c2, .int .i64 kp2, .int .i64 tn2] : Array Value)[i]? := (Sp.blk H6.out (t := 49) (by simp)).cells
                have HRE := Lib.hid (rdL_litN w6 ⟨#[]⟩)
                clear HSA HRD z1 HS
                go_upto_region 21 with (at_builtin; refine wpList_appO8 (L := layN) 43 _ 16 Try.underlying43 infoN rfl rfl (.tmp 79) (.tmp 80) rfl w.heap.size (.slice A9 S.F.length c9) (S.F.map fun n => Dk.mkB (S.syn n)) rfl (HSB.out.own (List.mem_cons_self ..)) (some ⟨w6.heap.size, 0, none⟩) 1 1 [⟨#[]⟩] rfl rfl HRE.out (by have := HF64.out; have := HML.out; simp only [List.length_singleton, maxLen]; omega) (by have := HF64.out; have := HML.out; simp only [List.length_singleton]; omega) HSB.out.size ?_; intro v7 w7 ho7 hg7 h37; obtain ⟨A7, c7, rfl⟩ := ho7.formN (n := S.F.length + 1) (by simp); have H7 := Lib.hid (HSB.out.app ho7 hg7 h37); clear ho7 hg7 h37)
                have z7 : ∀ i, w7.cell? ⟨gz, i, none⟩ = (#[.int .i64 0, .string nm, .slice A2 b2.length c2, .int .i64 kp2, .int .i64 tn2] : Array Value)[i]? := (Sp.blk H7.out (t := 49) (by simp)).cells
                have H8 : Hid (Sp w (dkT g S2 :: Rows2 A6 c6 A7 c7 S2) w7) := Lib.hid (by
                  have h := H7.out
                  rw [HES.out] at h
                  unfold Rows2
                  rw [HEF.out, List.length_append, List.length_singleton]
                  rw [HEF.out] at h
                  have h2 := (h.perm (perm4 _ _ _ _ [])).tail
                  exact h2.perm ((perm3 _ _ _ []).trans ((List.Perm.swap ..).cons _)))
                have q8 : (.slice A6 (S.F.length + 1) c6 : Value) = .slice A6 S2.F.length c6 := by rw [HEF.out]; simp
                have q9 : (.slice A7 (S.F.length + 1) c7 : Value) = .slice A7 S2.F.length c7 := by rw [HEF.out]; simp
                have Q89 := Lib.hid (And.intro q8 q9)
                clear q8 q9 H6 HSB HRE z6 H7
                go_wp2_with fail
                go_roundg gn
                case rel => exact ⟨k + 1, S2, A6, c6, A7, c7, by go_num, Q89.out.1, Q89.out.2, by have := HN.out; omega, H8, HU2⟩
                case measure => omega
    · have HU200 : Hid (S.uns ≤ 200) := Lib.hid (by have := HU.out; omega)
      have htest : (xs.length ≤ k) ∨ (k < xs.length ∧ 200 ≤ k) := by omega
      clear hlt hnk HU
      go_upto_region 7 with (fail)
      go_cut [35] (fun s W => s = .bool false ∧ W = wr)
      case first =>
        rcases htest with h | ⟨h, h2⟩
        · have hk1 : ¬ (k : Int) < (xs.length : Int) := by omega
          go_wp2_with fail
          go_meet
          exact ⟨rfl, rfl⟩
        · have hk1 : (k : Int) < (xs.length : Int) := by omega
          have hk2 : ¬ (k : Int) < 200 := by omega
          go_wp2_with fail
          go_meet
          exact ⟨rfl, rfl⟩
      case rest =>
        obtain ⟨rfl, rfl⟩ := hcut
        clear htest
        have HSY : Hid (∀ n, S.syn n = S.syn n) := Lib.hid (fun _ => rfl)
        obtain ⟨nl, hnl⟩ : ∃ nl, nl = S.F := ⟨_, rfl⟩
        have HNL := Lib.hid hnl
        have HIN : Hid (∀ j, j < nl.length → nl.getD j default ∈ S.F) := Lib.hid (fun j hj => by rw [hnl] at hj ⊢; simp [List.getD, hj])
        have HS1 : Hid (Sp w (dkT g S :: ownT layN 9 (.slice none 0 0) ((nl.take 0).map fun n => Dk.mkB (S.read n)) :: ownT layN 9 (.slice A8 nl.length c8) nl :: [ownT layN 9 (.slice A9 nl.length c9) (nl.map fun n => Dk.mkB (S.syn n))]) wc) := Lib.hid (by
          have h := (HS.out.row0 (L := layN) (e := 9)).perm (List.Perm.swap ..)
          rw [hnl]
          exact h)
        have HLN : Hid (nl.length ≤ 64) := Lib.hid (by rw [hnl]; exact HF64.out)
        rw [← hnl]
        clear HS HF64 HSY hnl
        go_wp2_with fail
        go_loopg [16, 17, 18, 19] nl.length (fun n v16 v17 v18 v19 W => ∃ (k : Nat) (B : Option Addr) (c : Nat), v17 = .int .i64 k ∧ v16 = .slice B k c ∧ n + k = nl.length ∧ Hid (Sp w (dkT g S :: ownT layN 9 (.slice B k c) ((nl.take k).map fun n => Dk.mkB (S.read n)) :: ownT layN 9 (.slice A8 nl.length c8) nl :: [ownT layN 9 (.slice A9 nl.length c9) (nl.map fun n => Dk.mkB (S.syn n))]) W))
        case atStart => exact ⟨0, none, 0, rfl, rfl, rfl, HS1⟩
        case round =>
          clear HS1
          obtain ⟨k, B, c, rfl, rfl, hnk, HS⟩ := hrel
          by_cases hlt : k < nl.length
          · have hki : (k : Int) < (nl.length : Int) := by omega
            have hg : 0 < gk := by omega
            obtain ⟨b, off, hAe, -, e0⟩ := (HS.out.rd (e := 9) (A := A8) (n := nl.length) (c := c8) (xs := nl) (by simp)).nm k hlt
            obtain ⟨nm, hnm⟩ : ∃ nm, nm = nl.getD k default := ⟨_, rfl⟩
            rw [← hnm] at e0
            have hk1 : (k : Int) + 1 ≤ 9223372036854775807 := by have := HLN.out; omega
            have HNF : Hid (nm ∈ S.F) := Lib.hid (by rw [hnm]; exact HIN.out k hlt)
            have HNM := Lib.hid hnm
            have HN := Lib.hid hnk
            have HLT := Lib.hid hlt
            have HAE := Lib.hid hAe
            clear hnm hnk hlt hAe
            rw [HAE.out]
            go_wp2_with fail
            refine (read_g HS nm (DkG.nm_in HNF.out)).mono ?_
            rintro e w4 ⟨A4, c4, he, o4, b4⟩
            rw [DkG.there_in HNF.out] at he
            subst he
            have vb := convO o4
            have H5 : Hid (Sp w (ownT layN 9 (.slice B k c) ((nl.take k).map fun n => Dk.mkB (S.read n)) :: dkT g S :: ownT layN 9 (.slice A8 nl.length c8) nl :: [ownT layN 9 (.slice A9 nl.length c9) (nl.map fun n => Dk.mkB (S.syn n))]) (w4.alloc (.cells #[.string (Dk.mkB (S.read nm))] 9))) := Lib.hid (((HS.out.keep b4).perm (List.Perm.swap ..)).keep (bel_new (Below.refl w4.heap.size w4) _))
            have HRD := Lib.hid (rdL_litN w4 (Dk.mkB (S.read nm)))
            have HTL : Hid (((nl.take k).map fun n => Dk.mkB (S.read n)).length = k) := Lib.hid (by rw [List.length_map, List.length_take]; have := HLT.out; omega)
            have HST : Hid (((nl.take k).map fun n => Dk.mkB (S.read n)) ++ [Dk.mkB (S.read nm)] = (nl.take (k + 1)).map fun n => Dk.mkB (S.read n)) := Lib.hid (by rw [take_snocG HLT.out, ← HNM.out, List.map_append]; rfl)
            clear o4 b4 HS e0
            go_wp2_with (at_builtin; refine wpList_appO8 (L := layN) 43 _ 16 Try.underlying43 infoN rfl rfl (.tmp 112) (.tmp 115) rfl w.heap.size (.slice B k c) ((nl.take k).map fun n => Dk.mkB (S.read n)) rfl (H5.out.own (List.mem_cons_self ..)) (some ⟨w4.heap.size, 0, none⟩) 1 1 [Dk.mkB (S.read nm)] rfl rfl HRD.out (by have := HTL.out; have := HLN.out; have := HLT.out; simp only [List.length_singleton, maxLen]; omega) (by have := HTL.out; have := HLN.out; have := HLT.out; simp only [List.length_singleton]; omega) H5.out.size ?_; intro v6 w6 ho6 hg6 h36; obtain ⟨A6, c6, rfl⟩ := ho6.formN (n := k + 1) (by rw [List.length_append, HTL.out]; rfl); have H6 := Lib.hid ((H5.out.app ho6 hg6 h36).perm (List.Perm.swap ..)); clear ho6 hg6 h36)
            clear vb
            rw [HST.out] at H6
            rw [← HAE.out]
            go_roundg (gk - 1)
            case rel => exact ⟨k + 1, A6, c6, by go_num, rfl, by have := HN.out; omega, H6⟩
            case measure => omega
          · have hki : ¬ (k : Int) < (nl.length : Int) := by omega
            obtain rfl : k = nl.length := by omega
            clear hnk hlt
            go_wp2_with fail
            refine (waiting_g HS).mono ?_
            rintro e w8 ⟨rfl, rfl⟩
            go_wp2_with fail
            refine (crash_g HS (by have := HU200.out; omega) kp tn).mono ?_
            rintro e w8 ⟨rfl, h8⟩
            have HC : Hid ((S.crash kp tn).F = S.F ∧ (S.crash kp tn).uns = 0 ∧ (∀ n, (S.crash kp tn).read n <+: S.read n) ∧ (∀ n, S.syn n <+: (S.crash kp tn).read n) ∧ ((S.uns : Int) ≤ kp → ∀ n, (S.crash kp tn).read n = S.read n) ∧ (kp ≤ 0 → tn ≤ 0 → ∀ n, (S.crash kp tn).read n = S.syn n)) :=
              Lib.hid ⟨rfl, DkG.uns_crash _ _ _, fun n => DkG.crash_le S kp tn n, fun n => DkG.syn_le S kp tn n, fun h n => DkG.crash_all h tn n, fun h h2 n => DkG.crash_none h h2 n⟩
            have H8 : Hid (Sp w (dkT g (S.crash kp tn) :: ownT layN 9 (.slice B nl.length c) (nl.map fun n => Dk.mkB (S.read n)) :: ownT layN 9 (.slice A8 nl.length c8) nl :: [ownT layN 9 (.slice A9 nl.length c9) (nl.map fun n => Dk.mkB (S.syn n))]) w8) := Lib.hid (by
              rw [List.take_length] at h8
              exact h8)
            have HWG : Hid (∀ (f : ByteArray → ByteArray) j, j < nl.length → (nl.map f).getD j default = f (nl.getD j default)) := Lib.hid (fun f j hj => by simp [List.getD, hj])
            generalize S.crash kp tn = U at *
            clear h8 HS
            go_wp2_with fail
            go_loopg [21, 22, 23, 24] nl.length (fun n v21 v22 v23 v24 W => ∃ (j : Nat), v21 = .int .i64 j ∧ n + j = nl.length ∧ Hid (Sp w (dkT g U :: ownT layN 9 (.slice B nl.length c) (nl.map fun n => Dk.mkB (S.read n)) :: ownT layN 9 (.slice A8 nl.length c8) nl :: [ownT layN 9 (.slice A9 nl.length c9) (nl.map fun n => Dk.mkB (S.syn n))]) W))
            case atStart => exact ⟨0, rfl, rfl, H8⟩
            case round =>
              clear H8
              obtain ⟨j, rfl, hnj, HS⟩ := hrel
              by_cases hlt : j < nl.length
              · have hji : (j : Int) < (nl.length : Int) := by omega
                have hg : 0 < gk := by omega
                have hj1 : (j : Int) + 1 ≤ 9223372036854775807 := by have := HLN.out; omega
                have hwj : IntKind.i64.wrap (j : Int) = (j : Int) := IntWalk.i64_in _ (by omega)
                obtain ⟨b, off, hAe, -, e0⟩ := (HS.out.rd (e := 9) (A := A8) (n := nl.length) (c := c8) (xs := nl) (by simp)).nm j hlt
                have HNF : Hid (nl.getD j default ∈ S.F) := Lib.hid (HIN.out j hlt)
                have HW1 := Lib.hid (HWG.out (fun n => Dk.mkB (S.read n)) j hlt)
                have HW2 := Lib.hid (HWG.out (fun n => Dk.mkB (S.syn n)) j hlt)
                have HN := Lib.hid hnj
                have HLT := Lib.hid hlt
                have HAE := Lib.hid hAe
                generalize nl.getD j default = nm at *
                clear hnj hlt hAe
                rw [HAE.out]
                go_wp2_with fail
                refine (read_g HS nm (DkG.nm_in HNF.out)).mono ?_
                rintro e w4 ⟨A4, c4, he, o4, b4⟩
                rw [HC.out.1, DkG.there_in HNF.out] at he
                subst he
                have vb := convO o4
                have H4 := Lib.hid (HS.out.keep b4)
                obtain ⟨b1, o1, hB1, -, ew1⟩ := (H4.out.rd (e := 9) (A := B) (n := nl.length) (c := c) (xs := nl.map fun n => Dk.mkB (S.read n)) (by simp)).nm j (by rw [List.length_map]; exact HLT.out)
                obtain ⟨b2, o2, hB2, -, ew2⟩ := (H4.out.rd (e := 9) (A := A9) (n := nl.length) (c := c9) (xs := nl.map fun n => Dk.mkB (S.syn n)) (by simp)).nm j (by rw [List.length_map]; exact HLT.out)
                rw [HW1.out] at ew1
                rw [HW2.out] at ew2
                obtain ⟨-, -, p1, p2, p3, p4⟩ := HC.out
                have s1 : (Dk.mkB (U.read nm)).size ≤ (Dk.mkB (S.read nm)).size := by rw [mkB_size, mkB_size]; exact (p1 nm).length_le
                have s2 : (Dk.mkB (S.syn nm)).size ≤ (Dk.mkB (U.read nm)).size := by rw [mkB_size, mkB_size]; exact (p2 nm).length_le
                have s3 : (Dk.mkB (S.read nm)).extract 0 (Dk.mkB (U.read nm)).size = Dk.mkB (U.read nm) := mkB_pre (p1 nm)
                have s4 : (S.uns : Int) ≤ kp → Dk.mkB (U.read nm) = Dk.mkB (S.read nm) := fun h => by rw [p3 h nm]
                have s5 : kp ≤ 0 → tn ≤ 0 → Dk.mkB (U.read nm) = Dk.mkB (S.syn nm) := fun h h2 => by rw [p4 h h2 nm]
                clear HW1 HW2 HS e0 o4 b4 p1 p2 p3 p4
                generalize Dk.mkB (S.read nm) = sw at *
                generalize Dk.mkB (S.syn nm) = sy at *
                generalize Dk.mkB (U.read nm) = su at *
                have HB1 := Lib.hid hB1
                have HB2 := Lib.hid hB2
                have S4 := Lib.hid s4
                have S5 := Lib.hid s5
                clear hB1 hB2 s4 s5
                rw [HB1.out, HB2.out]
                go_upto_region 37 with (fail)
                go_cut [201] (fun s W => s = .bool false ∧ W = w4)
                case first =>
                  have t1 : ¬ (sw.size : Int) < (su.size : Int) := by omega
                  have t2 : ¬ (su.size : Int) < (sy.size : Int) := by omega
                  have t3 : (su.size : Int) ≤ (sw.size : Int) := by omega
                  by_cases c1 : (S.uns : Int) ≤ kp
                  · obtain rfl : su = sw := S4.out c1
                    by_cases c2 : kp ≤ 0
                    · by_cases c3 : tn ≤ 0
                      · obtain rfl : su = sy := S5.out c2 c3
                        go_wp2_with fail
                        go_meet
                        exact ⟨rfl, rfl⟩
                      · have c4 : ¬ tn ≤ 0 := c3
                        go_wp2_with fail
                        go_meet
                        exact ⟨rfl, rfl⟩
                    · have c4 : ¬ kp ≤ 0 := c2
                      go_wp2_with fail
                      go_meet
                      exact ⟨rfl, rfl⟩
                  · have c5 : ¬ (S.uns : Int) ≤ kp := c1
                    by_cases c2 : kp ≤ 0
                    · by_cases c3 : tn ≤ 0
                      · obtain rfl : su = sy := S5.out c2 c3
                        go_wp2_with fail
                        go_meet
                        exact ⟨rfl, rfl⟩
                      · have c4 : ¬ tn ≤ 0 := c3
                        go_wp2_with fail
                        go_meet
                        exact ⟨rfl, rfl⟩
                    · have c4 : ¬ kp ≤ 0 := c2
                      go_wp2_with fail
                      go_meet
                      exact ⟨rfl, rfl⟩
                case rest =>
                  obtain ⟨rfl, rfl⟩ := hcut
                  clear vb ew1 ew2 s1 s2 s3
                  rw [← HAE.out, ← HB1.out, ← HB2.out]
                  go_wp2_with fail
                  go_roundg (gk - 1)
                  case rel => exact ⟨j + 1, by go_num, by have := HN.out; omega, H4⟩
                  case measure => omega
              · have hji : ¬ (j : Int) < (nl.length : Int) := by omega
                have HSL : Hid ((Dk.srt S.F).length = nl.length) := Lib.hid (by rw [Dk.srt_len, HNL.out])
                clear hnj hlt
                go_wp2_with fail
                refine (waiting_g HS).mono ?_
                rintro e w9 ⟨he, rfl⟩
                rw [HC.out.2.1] at he
                subst he
                go_wp2_with fail
                refine (names_g HS).mono ?_
                rintro e w9 ⟨A10, c10, he, o9, b9⟩
                rw [HC.out.1, HSL.out] at he
                subst he
                have H9 := Lib.hid (HS.out.keep b9).bel
                clear o9 b9 HS
                go_wp2_with fail
                go_ret
                exact ⟨rfl, H9.out⟩

set_option maxRecDepth 100000 in
theorem walks {H : Type} (enc : TypeId × Value → H) : Walks enc Try.prog 6 Try.f6 := by
  intro W base args ds ps hval hA hwt
  rw [Try.params6] at hA hval hwt
  obtain ⟨v0, vs0, d0, ds0, p0, q0, hargs, rfl, rfl, h0, r0⟩ := trodAll_cons hA
  obtain ⟨v1, vs1, d1, ds1, p1, q1, rfl, rfl, rfl, h1, r1⟩ := trodAll_cons r0
  obtain ⟨v2, vs2, d2, ds2, p2, q2, rfl, rfl, rfl, h2, r2⟩ := trodAll_cons r1
  obtain ⟨rfl, rfl, rfl⟩ := trodAll_nil r2
  obtain rfl : args = #[v0, v1, v2] := by cases args; simp_all
  obtain ⟨A, xs, cap, rfl, a1, b1, c1, g1⟩ := script_arg (hval 0 39 v0 rfl rfl) h0 (weightsEach_at (i := 0) hwt rfl rfl)
  obtain ⟨k, rfl, rfl, rfl, hk⟩ := open_int Try.underlying3 (hval 1 3 v1 rfl rfl) h1
  obtain ⟨t, rfl, rfl, rfl, ht⟩ := open_int Try.underlying3 (hval 2 3 v2 rfl rfl) h2
  exact walk A cap xs k t W (Lib.hid c1) (Lib.hid g1) (by omega) (by simp [Lit.wf, IntKind.min, IntKind.max, IntKind.signed, IntKind.bits] at hk; exact hk)

set_option maxRecDepth 100000 in
theorem lifted (os : Os) (started : os.Started) (H : Type) (enc : TypeId × Value → H) :
    ReturnsInHanded {} Try.checked os 6 .any (Rows.diskCrashSpec.pre6 enc Try.prog Try.f6 Rows.diskCrashRow.domain false) (Rows.diskCrashSpec.post enc Try.prog Try.f6 false true false false) :=
  frame_lifted (C := Try.checked) own started (by kernel_rfl) Try.func6
    (ChangeSpec.witness6 (enc := enc) (C := Try.checked) false ⟨#[], #[.slice none 0 0, .int .i64 0, .int .i64 0], []⟩ 8 (by kernel_rfl) (by kernel_rfl) (by kernel_rfl) (by kernel_rfl)) laidOut (by kernel_rfl) rfl (by rfl) Try.underlying4
    (fun ds h => match ds, h with | [d0, d1, d2], _ => ⟨rfl, rfl, rfl⟩) (walks enc)

theorem over : Rows.diskCrashRow.holds Try.pinned (OpenSpec.ofChange Rows.diskCrashSpec) :=
  OpenClaim.holds_of_wide 6 Try.f6 rfl rfl rfl rfl rfl rfl rfl ⟨rfl, rfl, rfl, rfl, rfl⟩ rfl rfl rfl rfl rfl (by kernel_rfl) Try.func6 (by kernel_rfl)
    (of_decide_eq_true (by kernel_rfl)) (by unfold Func.isWrapper; first | (rw [if_pos (by decide +kernel)]; kernel_rfl) | (rw [if_neg (by decide +kernel)]; exact ⟨rfl, rfl⟩))
    (fun os started H enc _ => lifted os started H enc)

/-- the statement -/
theorem proved : Rows.DiskCrashSaid := over
end Go.Proofs.Ytheocdfccdpmbaa.lawDiskCrash
