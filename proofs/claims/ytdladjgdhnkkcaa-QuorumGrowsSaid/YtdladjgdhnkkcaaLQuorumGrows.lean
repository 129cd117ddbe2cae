/-
  QuorumGrows: a set that wins still wins with more nodes; one and the rest of the configuration do not both win.
  No condition.
-/
import Derived.Test.YtdladjgdhnkkcaaQR
import Derived.Test.YtdladjgdhnkkcaaFrame
import Derived.Test.YtdladjgdhnkkcaaRows
import Derived.Test.YtdladjgdhnkkcaaQS
namespace Go.Proofs.Ytdladjgdhnkkcaa.lawQuorumGrows
open Go.RowKit Go.ChangeShapes Go.WideShapes Go.ChangeAt Go.Deep Go.Proofs.Ytdladjgdhnkkcaa
set_option linter.unusedVariables false
set_option linter.unusedSimpArgs false

set_option maxRecDepth 20000 in
set_option maxHeartbeats 8000000 in
theorem walk (A : Option Addr) (cap : Nat) (l : List Int) (B : Option Addr) (capB : Nat) (s : List Int) (C : Option Addr) (capC : Nat) (m : List Int) (w : World)
    (hA : Hid (RdI w A l)) (hll : l.length ≤ cap) (hcl : cap ≤ 20000000000000) (gl : Hid (∀ k ∈ l, -9223372036854775808 ≤ k ∧ k ≤ 9223372036854775807))
    (hB : Hid (RdI w B s)) (hls : s.length ≤ capB) (hcs : capB ≤ 20000000000000) (gs : Hid (∀ k ∈ s, -9223372036854775808 ≤ k ∧ k ≤ 9223372036854775807))
    (hC : Hid (RdI w C m)) (hlm : m.length ≤ capC) (hcm : capC ≤ 20000000000000) (gm : Hid (∀ k ∈ m, -9223372036854775808 ≤ k ∧ k ≤ 9223372036854775807)) :
    Calls Try.prog 12 #[.slice A l.length cap, .slice B s.length capB, .slice C m.length capC] w fun e w' => e = .returned (.bool true) ∧ Below w.heap.size w w' := by
  have HM1 := Lib.hid (fun h => Qm.wins_more (l := l) (s := s) m h)
  have HM2 := Lib.hid (fun h => Qm.wins_rest (l := l) (s := s) h)
  have HW := Lib.hid (fun (W : World) (D : Option Addr) (c : Nat) (t : List Int) (h1 : Hid (RdI W A l)) (h2 : Hid (RdI W D t)) (h3 : t.length ≤ c) (h4 : c ≤ maxLen) => wins_calls A D cap c l t W h1 hll (by omega) h2 (Nat.le_trans h3 (Nat.le_trans h4 (by decide))))
  have HC := Lib.hid (fun (W : World) (h1 : Hid (RdI W A l)) => qcheck_calls A cap l W h1 hll (by omega))
  have HH := Lib.hid (fun (W : World) (x : Int) (h1 : Hid (RdI W B s)) => has_calls B capB s x W h1 (by omega))
  have HWS := Lib.hid (Qm.wins_self l)
  have hcapm : cap ≤ maxLen := Nat.le_trans hcl (by decide)
  have hcapBm : capB ≤ maxLen := Nat.le_trans hcs (by decide)
  clear gl gs gm
  by_cases hs4 : s.length ≤ 4096
  rotate_left
  · have hsi : (4096 : Int) < (s.length : Int) := by omega
    go_enter Try.func12, Try.ntmps12
    go_wp2_with fail
    refine (quorum_awake _).mono ?_
    rintro e w1 ⟨rfl, hb1⟩
    have HB1 := Lib.hid hb1
    clear hb1
    go_wp2_with fail
    go_ret
    exact ⟨rfl, HB1.out⟩
  have hsi : ¬ (4096 : Int) < (s.length : Int) := by omega
  by_cases hm4 : m.length ≤ 4096
  rotate_left
  · have hmi : (4096 : Int) < (m.length : Int) := by omega
    go_enter Try.func12, Try.ntmps12
    go_wp2_with fail
    refine (quorum_awake _).mono ?_
    rintro e w1 ⟨rfl, hb1⟩
    have HB1 := Lib.hid hb1
    clear hb1
    go_wp2_with fail
    go_ret
    exact ⟨rfl, HB1.out⟩
  have hmi : ¬ (4096 : Int) < (m.length : Int) := by omega
  have HS4 := Lib.hid hs4
  have HM4 := Lib.hid hm4
  clear hs4 hm4
  go_enter Try.func12, Try.ntmps12
  go_wp2_with fail
  refine (quorum_awake _).mono ?_
  rintro e w1 ⟨rfl, hb1⟩
  have HB1 := Lib.hid hb1
  have hbn := Lib.hid (bel_new (Below.refl w1.heap.size w1) (.cells #[] 3))
  have HLIT := Lib.hid (OwnL.lit (L := layI .i64) (e := 3) w1 w1.heap.size (Nat.le_refl _) [] (by simp) #[] rfl)
  clear hb1
  go_wp2_with (first
    | (at_builtin
       refine wpList_appL 45 _ 8 Try.underlying45 infoI rfl rfl (.tmp 21) (.tmp 22) rfl w1.heap.size _ [] rfl HLIT.out B s.length capB s rfl rfl ((hB.out.bel HB1.out).bel hbn.out) (by have := HS4.out; simp [maxLen]; omega) (by have := HS4.out; simp; omega) (by simp) ?_
       intro v4 w4 ho4 hg4
       have hb4 := Lib.hid (OwnL.grown HLIT.out hbn.out (by simp) hg4)
       rw [List.nil_append] at ho4
       clear hg4)
    | (at_builtin
       refine wpList_appL 45 _ 8 Try.underlying45 infoI rfl rfl (.tmp 24) (.tmp 25) rfl w1.heap.size _ s rfl ho4 C m.length capC m rfl rfl ((hC.out.bel HB1.out).bel hb4.out) (by have := HS4.out; have := HM4.out; simp [maxLen]; omega) (by have := HS4.out; have := HM4.out; omega) hb4.out.size ?_
       intro v5 w5 ho5 hg5
       have hb5 := Lib.hid (OwnL.grown ho4 hb4.out hb4.out.size hg5)
       clear hg5 ho4))
  obtain ⟨A5, c5, rfl, m5, m6, hR5, _⟩ := ho5.form
  have HB5 := Lib.hid (bel_tr HB1.out hb5.out)
  have HR5 := Lib.hid hR5
  have HA5 := Lib.hid (hA.out.bel HB5.out)
  have HS5 := Lib.hid (hB.out.bel HB5.out)
  have HWA := Lib.hid (fun (W : World) (h1 : Hid (RdI W A l)) (h2 : Hid (RdI W A5 (s ++ m))) => HW.out W A5 c5 (s ++ m) h1 h2 m5 m6)
  generalize hall : s ++ m = all at *
  clear hall ho5 hR5 m5 m6 HB1
  have hll2 := hll
  have HLL := Lib.hid hll
  go_loopg [8, 9] l.length (fun n v8 v9 W => Below w5.heap.size w5 W ∧ ∃ k : Nat, v9 = .int .i64 k ∧ Hid (k + n = l.length ∧ OwnL (layI .i64) 3 W w5.heap.size v8 (Qm.oth (l.take k) s)))
  case atStart => exact ⟨Below.refl _ _, 0, rfl, Lib.hid ⟨by omega, OwnL.nil _ _⟩⟩
  case round =>
    obtain ⟨hb, k, rfl, HI⟩ := hrel
    obtain ⟨hkg, hown⟩ := HI.out
    have hB := Lib.hid hb
    by_cases hlt : k < l.length
    · have hl : (k : Int) < (l.length : Int) := by omega
      have hg : 0 < gk := by omega
      obtain ⟨b, off, rfl, h1, c1⟩ := HA5.out.int k hlt
      replace c1 := (hb.cell (p := ⟨b, off + k, none⟩) h1).trans c1
      have hst := Qm.oth_step s l k hlt
      have hxl : (Qm.oth (l.take k) s).length ≤ 20000000000000 := by
        have := Qm.oth_len (l.take k) s
        rw [List.length_take] at this
        omega
      generalize Qm.oth (l.take k) s = X at *
      generalize l.getD k default = x at *
      have HXL := Lib.hid hxl
      have HOW := Lib.hid hown
      have HKG := Lib.hid hkg
      have HST := Lib.hid hst
      clear hkg hown HI hst hxl hb
      go_wp2_with fail
      refine (HH.out wr x (Lib.hid (HS5.out.bel hB.out))).mono ?_
      rintro e w' ⟨rfl, rfl⟩
      by_cases hxs : x ∈ s
      · have hst := HST.out
        rw [if_pos hxs, List.append_nil] at hst
        have HST2 := Lib.hid hst
        rw [decide_eq_true hxs]
        clear hst hxs
        go_wp2_with fail
        go_roundg (gk - 1)
        case rel => exact ⟨hB.out, k + 1, by go_num, Lib.hid ⟨by have := HKG.out; omega, by rw [HST2.out]; exact HOW.out⟩⟩
        case measure => omega
      · have hst := HST.out
        rw [if_neg hxs] at hst
        have HST2 := Lib.hid hst
        rw [decide_eq_false hxs]
        clear hst hxs
        go_wp2_with (first
          | (at_builtin
             refine wpList_appL 45 _ 8 Try.underlying45 infoI rfl rfl (.tmp 40) (.tmp 45) rfl w5.heap.size _ X rfl (HOW.out.kept (bel_new (Below.refl _ _) _)) (some ⟨wr.heap.size, 0, none⟩) 1 1 [x] rfl rfl (rdI_one wr x) (by have := HXL.out; simp [maxLen]; omega) (by have := HXL.out; simp; omega) (bel_new hB.out _).size ?_
             intro v6 w6 ho6 hgg
             have hbw6 := Lib.hid (OwnL.grown (w0 := w5) (HOW.out.kept (bel_new (Below.refl _ _) _)) (bel_new hB.out _) (bel_new hB.out _).size hgg)
             clear hgg))
        go_roundg (gk - 1)
        case rel => exact ⟨hbw6.out, k + 1, by go_num, Lib.hid ⟨by have := HKG.out; omega, by rw [HST2.out]; exact ho6⟩⟩
        case measure => omega
    · have hl : ¬ (k : Int) < (l.length : Int) := by omega
      rw [show k = l.length from by omega, List.take_length] at hown
      obtain ⟨D, c, rfl, m7, m8, hD, _⟩ := hown.form
      have HD := Lib.hid hD
      have HAr := Lib.hid (HA5.out.bel hb)
      have HSr := Lib.hid (HS5.out.bel hb)
      have HRr := Lib.hid (HR5.out.bel hb)
      have HBr := Lib.hid (bel_tr HB5.out hb)
      have HWD := Lib.hid (HW.out wr D c (Qm.oth l s) HAr HD m7 m8)
      have HWB := Lib.hid (HW.out wr B capB s HAr HSr hls hcapBm)
      have HWL := Lib.hid (HW.out wr A cap l HAr HAr hll hcapm)
      have HWX := Lib.hid (HWA.out wr HAr HRr)
      have HCK := Lib.hid (HC.out wr HAr)
      rw [HWS.out] at HWL
      generalize Qm.wins l s = x1 at *
      generalize Qm.wins l all = x2 at *
      generalize Qm.wins l (Qm.oth l s) = x3 at *
      generalize Qm.chk l = x4 at *
      clear hlt hkg hown HI hb hD m7 m8
      go_wp2_with fail
      refine HWB.out.mono ?_
      rintro e w' ⟨rfl, rfl⟩
      cases x1 with
      | false =>
        cases x4 <;>
        (go_wp2_with fail
         refine HWL.out.mono ?_
         rintro e w' ⟨rfl, rfl⟩
         go_wp2_with fail
         refine HCK.out.mono ?_
         rintro e w' ⟨rfl, rfl⟩
         go_wp2_with fail
         go_ret
         exact ⟨rfl, HBr.out⟩)
      | true =>
        obtain rfl : x2 = true := HM1.out rfl
        obtain rfl : x3 = false := HM2.out rfl
        cases x4 <;>
        (go_wp2_with fail
         refine HWX.out.mono ?_
         rintro e w' ⟨rfl, rfl⟩
         go_wp2_with fail
         refine HWD.out.mono ?_
         rintro e w' ⟨rfl, rfl⟩
         go_wp2_with fail
         refine HWL.out.mono ?_
         rintro e w' ⟨rfl, rfl⟩
         go_wp2_with fail
         refine HCK.out.mono ?_
         rintro e w' ⟨rfl, rfl⟩
         go_wp2_with fail
         go_ret
         exact ⟨rfl, HBr.out⟩)

set_option maxRecDepth 100000 in
theorem walks {H : Type} (enc : TypeId × Value → H) : Walks enc Try.prog 12 Try.f12 := by
  intro W base args ds ps hval hA hwt
  rw [Try.params12] at hA hval hwt
  obtain ⟨v0, vs0, d0, ds0, p0, q0, hargs, rfl, rfl, h0, r0⟩ := trodAll_cons hA
  obtain ⟨v1, vs1, d1, ds1, p1, q1, rfl, rfl, rfl, h1, r1⟩ := trodAll_cons r0
  obtain ⟨v2, vs2, d2, ds2, p2, q2, rfl, rfl, rfl, h2, r2⟩ := trodAll_cons r1
  obtain ⟨rfl, rfl, rfl⟩ := trodAll_nil r2
  obtain rfl : args = #[v0, v1, v2] := by cases args; simp_all
  obtain ⟨A0, l0, cap0, rfl, a0, b0, c0, g0⟩ := ints_arg (hval 0 45 v0 rfl rfl) h0 (weightsEach_at (i := 0) hwt rfl rfl)
  obtain ⟨A1, l1, cap1, rfl, a1, b1, c1, g1⟩ := ints_arg (hval 1 45 v1 rfl rfl) h1 (weightsEach_at (i := 1) hwt rfl rfl)
  obtain ⟨A2, l2, cap2, rfl, a2, b2, c2, g2⟩ := ints_arg (hval 2 45 v2 rfl rfl) h2 (weightsEach_at (i := 2) hwt rfl rfl)
  exact walk A0 cap0 l0 A1 cap1 l1 A2 cap2 l2 W (Lib.hid c0) a0 b0 (Lib.hid g0) (Lib.hid c1) a1 b1 (Lib.hid g1) (Lib.hid c2) a2 b2 (Lib.hid g2)

set_option maxRecDepth 100000 in
theorem lifted (os : Os) (started : os.Started) (H : Type) (enc : TypeId × Value → H) :
    ReturnsInHanded {} Try.checked os 12 .any (Rows.quorumGrowsSpec.pre6 enc Try.prog Try.f12 Rows.quorumGrowsRow.domain false) (Rows.quorumGrowsSpec.post enc Try.prog Try.f12 false true false false) :=
  frame_lifted (C := Try.checked) own started (by kernel_rfl) Try.func12
    (ChangeSpec.witness6 (enc := enc) (C := Try.checked) false ⟨#[], #[.slice none 0 0, .slice none 0 0, .slice none 0 0], []⟩ 8 (by kernel_rfl) (by kernel_rfl) (by kernel_rfl) (by kernel_rfl)) laidOut (by kernel_rfl) rfl (by rfl) Try.underlying4
    (fun ds h => match ds, h with | [d0, d1, d2], _ => ⟨rfl, rfl, rfl⟩) (walks enc)

theorem over : Rows.quorumGrowsRow.holds Try.pinned (OpenSpec.ofChange Rows.quorumGrowsSpec) :=
  OpenClaim.holds_of_wide 12 Try.f12 rfl rfl rfl rfl rfl rfl rfl ⟨rfl, rfl, rfl, rfl, rfl⟩ rfl rfl rfl rfl rfl (by kernel_rfl) Try.func12 (by kernel_rfl)
    (of_decide_eq_true (by kernel_rfl)) (by unfold Func.isWrapper; first | (rw [if_pos (by decide +kernel)]; kernel_rfl) | (rw [if_neg (by decide +kernel)]; exact ⟨rfl, rfl⟩))
    (fun os started H enc _ => lifted os started H enc)

/-- the statement -/
theorem proved : Rows.QuorumGrowsSaid := over
end Go.Proofs.Ytdladjgdhnkkcaa.lawQuorumGrows
