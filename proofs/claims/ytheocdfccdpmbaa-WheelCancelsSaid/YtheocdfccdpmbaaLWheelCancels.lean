/-
  WheelCancels: an item that is taken out again is as if it had never been put in.
  No condition.
-/
import Derived.Test.YtheocdfccdpmbaaWhO
import Derived.BigQuiet
import Derived.Deep.Cut
import Derived.Deep.RegionHeld3
import Derived.Deep.DeepCutAuto
namespace Go.Proofs.Ytheocdfccdpmbaa.lawWheelCancels
open Go.ChangeShapes Go.WideShapes Go.ChangeAt Go.RowKit Go.Deep
set_option linter.unusedVariables false
set_option linter.unusedSimpArgs false
set_option maxHeartbeats 8000000

set_option maxRecDepth 100000 in
theorem walk (now tt : Int) (A : Option Addr) (cap : Nat) (xs : List Itm) (x : Itm) (w : World) (hR : Hid (RdL layW w A xs)) (hG : Hid (∀ i, i < xs.length → B64 (xs.getD i default).id ∧ B64 (xs.getD i default).at_)) (hlx : xs.length ≤ 20000000000000) (hx0 : B64 x.id) :
    Calls Try.prog 12 #[.int .i64 now, .slice A xs.length cap, itmV x, .int .i64 tt] w fun e w' => e = .returned (.bool true) ∧ Below w.heap.size w w' := by
  have HLX := Lib.hid hlx
  obtain ⟨xid, xa⟩ := x
  have xid0 : -9223372036854775808 ≤ xid := hx0.1
  have xid1 : xid ≤ 9223372036854775807 := hx0.2
  have HBN := Lib.hid (bel_new (Below.refl w.heap.size w) (.cells #[.int .i64 xid, .int .i64 xa] 31))
  have HKN := Lib.hid (Blk.new w 31 #[.int .i64 xid, .int .i64 xa])
  clear hlx hx0
  go_enter Try.func12, Try.ntmps12
  go_upto_region 1 with (fail)
  generalize hg0 : w.heap.size = g0 at *
  generalize w.alloc (.cells #[.int .i64 xid, .int .i64 xa] 31) = w0 at *
  go_wp2_with fail
  refine (wheel_awake w0).mono ?_
  rintro e w1 ⟨rfl, hb1⟩
  have HB1 : Hid (Below w.heap.size w w1) := Lib.hid (by rw [hg0]; exact HBN.out.trans (hb1.mono (by rw [← hg0]; have := HBN.out.size; rw [hg0]; exact (by have := HKN.out.lt; omega))))
  have HR1 := Lib.hid (hR.out.bel HB1.out)
  have HK1 := Lib.hid (HKN.out.bel hb1)
  have HG0 := Lib.hid hg0
  clear hb1 hR HBN HKN hg0
  by_cases c : 0 ≤ now ∧ now ≤ 226157759
  case neg =>
    go_wp2_with fail
    refine (new_no now c w1).mono ?_
    rintro e w2 ⟨rfl, rfl⟩
    go_wp2_with fail
    refine (new_no now c w1).mono ?_
    rintro e w2 ⟨rfl, rfl⟩
    go_wp2_with fail
    go_ret
    exact ⟨rfl, HB1.out⟩
  go_wp2_with fail
  refine (new_ok now c.1 c.2 w1).mono ?_
  rintro e w2 ⟨g, mb, rfl, h2⟩
  have H2 := Lib.hid (Stt.of_one h2)
  clear h2
  go_wp2_with fail
  refine (new_ok now c.1 c.2 w2).mono ?_
  rintro e w3 ⟨g2, mb2, rfl, h3⟩
  have H3 := Lib.hid (H2.out.put h3)
  have HC := Lib.hid c
  clear h3 H2 c
  go_upto_region 7 with (fail)
  go_cut [50] (fun s W => s = .bool false ∧ Hid (Stt w1 ⟨g, mb, now, []⟩ (some ⟨g2, mb2, now, []⟩) [] W))
  case first =>
    have k0 : w3.cell? ⟨g0, 0, none⟩ = some (.int .i64 xid) := H3.out.cell HK1.out.lt (HK1.out.cells 0)
    have k1 : w3.cell? ⟨g0, 1, none⟩ = some (.int .i64 xa) := H3.out.cell HK1.out.lt (HK1.out.cells 1)
    go_wp2_with fail
    refine (insert_st H3 ⟨xid, xa⟩ xid0 xid1).mono ?_
    rintro e w4 ⟨rfl, h4⟩
    by_cases ci : Wh.insE now [] ⟨xid, xa⟩ = 0
    · have H4 := Lib.hid h4
      have k0 : w4.cell? ⟨g0, 0, none⟩ = some (.int .i64 xid) := H4.out.cell HK1.out.lt (HK1.out.cells 0)
      have k1 : w4.cell? ⟨g0, 1, none⟩ = some (.int .i64 xa) := H4.out.cell HK1.out.lt (HK1.out.cells 1)
      have HCI := Lib.hid ci
      have HHI := Lib.hid (hasId_ins ci)
      have HPO := Lib.hid (Wh.put_out ci)
      rw [ci]
      clear h4 ci
      go_wp2_with fail
      refine (cancel_st H4 xid xid0 xid1).mono ?_
      rintro e w5 ⟨rfl, h5⟩
      have H5 : Hid (Stt w1 ⟨g, mb, now, []⟩ (some ⟨g2, mb2, now, []⟩) [] w5) := Lib.hid (by
        have := h5
        simp only [HPO.out] at this
        exact this)
      rw [show Wh.hasId (Wh.insS now [] ⟨xid, xa⟩) xid = true from HHI.out]
      clear h5
      go_wp2_with fail
      go_meet
      exact ⟨rfl, H5⟩
    · have H5 : Hid (Stt w1 ⟨g, mb, now, []⟩ (some ⟨g2, mb2, now, []⟩) [] w4) := Lib.hid (by
        have := h4
        simp only [insS_no ci] at this
        exact this)
      obtain ⟨z, hz⟩ : ∃ z, z = Wh.insE now [] ⟨xid, xa⟩ := ⟨_, rfl⟩
      rw [← hz] at ci
      have hzb : (z == 0) = false := by simpa using ci
      rw [← hz]
      clear h4 ci hz
      go_wp2_with fail
      go_meet
      exact ⟨rfl, H5⟩
  case rest =>
    obtain ⟨rfl, H6⟩ := hcut
    clear H3
    go_upto_region 10 with (fail)
    generalize wc = w6 at *
    go_loopg [13] (min xs.length 400) (fun n v13 W => ∃ (k : Nat), v13 = .int .i64 k ∧ n + k = min xs.length 400 ∧ Hid (Stt w1 ⟨g, mb, now, Wh.insAll now [] (xs.take k)⟩ (some ⟨g2, mb2, now, Wh.insAll now [] (xs.take k)⟩) [] W))
    case atStart => exact ⟨0, rfl, rfl, H6⟩
    case round =>
      clear H6
      obtain ⟨k, rfl, hnk, HI⟩ := hrel
      have HN := Lib.hid hnk
      by_cases hk : k < xs.length ∧ k < 400
      · obtain ⟨hk1, hk2⟩ := hk
        have hki : (k : Int) < (xs.length : Int) := by omega
        have hkj : (k : Int) < 400 := by omega
        obtain ⟨n, rfl⟩ : ∃ n, gk = n + 1 := ⟨gk - 1, by omega⟩
        obtain ⟨b, off, hbA, hlt, e0, e1⟩ := HR1.out.itm k hk1
        obtain ⟨hg0, hg1⟩ := hG.out k hk1
        have HSN : Hid (Wh.insS now (Wh.insAll now [] (xs.take k)) (xs.getD k default) = Wh.insAll now [] (xs.take (k + 1))) := Lib.hid (insS_all hk1)
        obtain ⟨⟨id, a⟩, hit⟩ : ∃ x, x = xs.getD k default := ⟨_, rfl⟩
        rw [← hit] at e0 e1 hg0 hg1 HSN
        have E0 : Hid (w1.cell? ⟨b, off + k * 2, none⟩ = some (.int .i64 id)) := Lib.hid e0
        have E1 : Hid (w1.cell? ⟨b, off + k * 2 + 1, none⟩ = some (.int .i64 a)) := Lib.hid e1
        have HLT := Lib.hid hlt
        have hid0 : -9223372036854775808 ≤ id := hg0.1
        have hid1 : id ≤ 9223372036854775807 := hg0.2
        have f0 : wr.cell? ⟨b, off + k * 2, none⟩ = some (.int .i64 id) := HI.out.cell hlt e0
        have f1 : wr.cell? ⟨b, off + k * 2 + 1, none⟩ = some (.int .i64 a) := HI.out.cell hlt e1
        have hwm : IntKind.i64.wrap (k : Int) = (k : Int) := IntWalk.i64_in _ (by omega)
        have HAE := Lib.hid hbA
        clear e0 e1 hg0 hg1 hit hlt hbA hnk
        rw [HAE.out]
        obtain ⟨x, hx⟩ : ∃ x, x = Wh.insE now (Wh.insAll now [] (xs.take k)) ⟨id, a⟩ := ⟨_, rfl⟩
        have HX := Lib.hid hx
        have y1 : (x == x) = true := by simp
        clear hx
        go_wp2_with fail
        go_region_held3 (fun W => W.cell? ⟨b, off + k * 2, none⟩ = some (.int .i64 id) ∧ W.cell? ⟨b, off + k * 2 + 1, none⟩ = some (.int .i64 a)) (go_keep) (first
          | (go_at_call 15; refine (insert_st (Lib.hid (HJ.out.swap)) ⟨id, a⟩ hid0 hid1).mono ?_; rintro e w5 ⟨rfl, h5⟩; have HJ2 := Lib.hid h5; rw [← HX.out]; have f0 := HJ2.out.cell HLT.out E0.out; have f1 := HJ2.out.cell HLT.out E1.out; clear h5)
          | (go_at_call 15; refine (insert_st (Lib.hid (HI.out.bel (bel_drew (Below.refl _ _)))) ⟨id, a⟩ hid0 hid1).mono ?_; rintro e w4 ⟨rfl, h4⟩; have HJ := Lib.hid h4; rw [← HX.out]; have f0 := HJ.out.cell HLT.out E0.out; have f1 := HJ.out.cell HLT.out E1.out; clear h4))
        have HJ3 : Hid (Stt w1 ⟨g, mb, now, Wh.insAll now [] (xs.take (k + 1))⟩ (some ⟨g2, mb2, now, Wh.insAll now [] (xs.take (k + 1))⟩) [] w5) := Lib.hid (by
          have := HJ2.out.swap
          rwa [HSN.out] at this)
        go_wp2_with fail
        rw [← HAE.out]
        go_roundg n
        case rel => exact ⟨k + 1, by go_num, by have := HN.out; omega, HJ3⟩
        case measure => omega
      · have HK : Hid (¬ (k < xs.length ∧ k < 400)) := Lib.hid hk
        clear hk hnk HN
        generalize Wh.insAll now [] (xs.take k) = S at *
        go_upto_region 10 with (fail)
        go_cut [58] (fun s W => s = .bool false ∧ Hid (Stt w1 ⟨g, mb, now, S⟩ (some ⟨g2, mb2, now, S⟩) [] W))
        case first =>
          by_cases hk1 : k < xs.length
          · have hki : (k : Int) < (xs.length : Int) := by omega
            have hkj : ¬ (k : Int) < 400 := by have := HK.out; omega
            go_wp2_with fail
            go_meet
            exact ⟨rfl, HI⟩
          · have hki : ¬ (k : Int) < (xs.length : Int) := by omega
            go_wp2_with fail
            go_meet
            exact ⟨rfl, HI⟩
        case rest =>
          obtain ⟨rfl, H4⟩ := hcut
          clear HI HK
          by_cases ca : advE now tt = 0
          case neg =>
            go_wp2_with fail
            refine (adv_no H4 tt ca).mono ?_
            rintro e w21 ⟨rfl, h21⟩
            have H21 := Lib.hid h21.swap
            clear h21
            go_wp2_with fail
            refine (adv_no H21 tt ca).mono ?_
            rintro e w22 ⟨rfl, h22⟩
            have H22 := Lib.hid h22.swap
            clear h22 H21
            go_wp2_with fail
            refine (items_calls none none 0 0 [] w22 (Lib.hid (RdL.nil _ _)) (Lib.hid (RdL.nil _ _)) (by simp)).mono ?_
            rintro e w23 ⟨rfl, hb23⟩
            have H23 := Lib.hid (H22.out.bel hb23)
            clear hb23 H22
            go_wp2_with fail
            refine (waiting_st H23).mono ?_
            rintro e w24 ⟨A4, cp4, rfl, h24⟩
            have H24 := Lib.hid h24.swap
            clear h24 H23
            go_wp2_with fail
            refine (waiting_st H24).mono ?_
            rintro e w25 ⟨A5, cp5, rfl, h25⟩
            have h250 : Stt w1 ⟨g2, mb2, now, S⟩ (some ⟨g, mb, now, S⟩) [(.slice A5 S.length cp5, S), (.slice A4 S.length cp4, S)] w25 := h25
            have H25 := Lib.hid h250
            have HS5 : Hid (S.length ≤ 1000000) := Lib.hid (by have := h250.len; simp only at this; omega)
            clear h25 h250 H24
            go_wp2_with fail
            refine (items_calls A4 A5 cp4 cp5 S w25 (Lib.hid (H25.out.rd (A := A4) (n := S.length) (c := cp4) (l := S) (by simp))) (Lib.hid (H25.out.rd (A := A5) (n := S.length) (c := cp5) (l := S) (by simp))) HS5.out).mono ?_
            rintro e w26 ⟨rfl, hb26⟩
            have H26 := Lib.hid (H25.out.bel hb26)
            clear hb26 H25
            go_wp2_with fail
            go_ret
            exact ⟨rfl, bel_tr HB1.out H26.out.below⟩
          have HS4 : Hid (S.length ≤ 4096) := Lib.hid (by have := H4.out.len; simp only at this; exact this)
          go_wp2_with fail
          refine (adv_ok H4 tt ca).mono ?_
          rintro e w21 ⟨A1, cp1, rfl, h21⟩
          have H21 : Hid (Stt w1 ⟨g2, mb2, now, S⟩ (some ⟨g, mb, tt, Wh.past tt S⟩) [(.slice A1 (Wh.upto tt S).length cp1, Wh.upto tt S)] w21) := Lib.hid h21.swap
          clear h21
          go_wp2_with fail
          refine (adv_ok H21 tt ca).mono ?_
          rintro e w22 ⟨A2, cp2, rfl, h22⟩
          have H22 : Hid (Stt w1 ⟨g2, mb2, tt, Wh.past tt S⟩ (some ⟨g, mb, tt, Wh.past tt S⟩) [(.slice A2 (Wh.upto tt S).length cp2, Wh.upto tt S), (.slice A1 (Wh.upto tt S).length cp1, Wh.upto tt S)] w22) := Lib.hid h22
          clear h22 H21
          have HU4 : Hid ((Wh.upto tt S).length ≤ 1000000) := Lib.hid (by have := upto_len tt S; have := HS4.out; omega)
          have HP4 : Hid ((Wh.past tt S).length ≤ 1000000) := Lib.hid (by have := Wh.split_len tt S; have := HS4.out; omega)
          go_wp2_with fail
          refine (items_calls A1 A2 cp1 cp2 (Wh.upto tt S) w22 (Lib.hid (H22.out.rd (A := A1) (n := (Wh.upto tt S).length) (c := cp1) (l := Wh.upto tt S) (by simp))) (Lib.hid (H22.out.rd (A := A2) (n := (Wh.upto tt S).length) (c := cp2) (l := Wh.upto tt S) (by simp))) HU4.out).mono ?_
          rintro e w23 ⟨rfl, hb23⟩
          have H23 := Lib.hid (((H22.out.bel hb23).drop (List.nil_sublist _)).swap)
          clear hb23 H22
          go_wp2_with fail
          refine (waiting_st H23).mono ?_
          rintro e w24 ⟨A4, cp4, rfl, h24⟩
          have H24 := Lib.hid h24.swap
          clear h24 H23
          go_wp2_with fail
          refine (waiting_st H24).mono ?_
          rintro e w25 ⟨A5, cp5, rfl, h25⟩
          have h250 : Stt w1 ⟨g2, mb2, tt, Wh.past tt S⟩ (some ⟨g, mb, tt, Wh.past tt S⟩) [(.slice A5 (Wh.past tt S).length cp5, Wh.past tt S), (.slice A4 (Wh.past tt S).length cp4, Wh.past tt S)] w25 := h25
          have H25 := Lib.hid h250
          clear h25 h250 H24
          go_wp2_with fail
          refine (items_calls A4 A5 cp4 cp5 (Wh.past tt S) w25 (Lib.hid (H25.out.rd (A := A4) (n := (Wh.past tt S).length) (c := cp4) (l := Wh.past tt S) (by simp))) (Lib.hid (H25.out.rd (A := A5) (n := (Wh.past tt S).length) (c := cp5) (l := Wh.past tt S) (by simp))) HP4.out).mono ?_
          rintro e w26 ⟨rfl, hb26⟩
          have H26 := Lib.hid (H25.out.bel hb26)
          clear hb26 H25
          go_wp2_with fail
          go_ret
          exact ⟨rfl, bel_tr HB1.out H26.out.below⟩

set_option maxRecDepth 100000 in
theorem walks {H : Type} (enc : TypeId × Value → H) : Walks enc Try.prog 12 Try.f12 := by
  intro W base args ds ps hval hA hwt
  rw [Try.params12] at hA hval hwt
  obtain ⟨v0, vs0, d0, ds0, p0, q0, hargs, rfl, rfl, h0, r0⟩ := trodAll_cons hA
  obtain ⟨v1, vs1, d1, ds1, p1, q1, rfl, rfl, rfl, h1, r1⟩ := trodAll_cons r0
  obtain ⟨v2, vs2, d2, ds2, p2, q2, rfl, rfl, rfl, h2, r2⟩ := trodAll_cons r1
  obtain ⟨v3, vs3, d3, ds3, p3, q3, rfl, rfl, rfl, h3, r3⟩ := trodAll_cons r2
  obtain ⟨rfl, rfl, rfl⟩ := trodAll_nil r3
  obtain rfl : args = #[v0, v1, v2, v3] := by cases args; simp_all
  obtain ⟨n, rfl, rfl, rfl, _⟩ := open_int Try.underlying2 (hval 0 2 v0 rfl rfl) h0
  obtain ⟨A, xs, cap, rfl, a1, b1, c1, g1⟩ := items_arg (hval 1 22 v1 rfl rfl) h1 (weightsEach_at (i := 1) hwt rfl rfl)
  obtain ⟨x, rfl, x0, x1⟩ := item_arg (hval 2 31 v2 rfl rfl) h2 (weightsEach_at (i := 2) hwt rfl rfl)
  obtain ⟨t, rfl, rfl, rfl, _⟩ := open_int Try.underlying2 (hval 3 2 v3 rfl rfl) h3
  exact walk n t A cap xs x W (Lib.hid c1) (Lib.hid g1) (by omega) x0

set_option maxRecDepth 100000 in
theorem lifted (os : Os) (started : os.Started) (H : Type) (enc : TypeId × Value → H) :
    ReturnsInHanded {} Try.checked os 12 .any (Rows.wheelCancelsSpec.pre6 enc Try.prog Try.f12 Rows.wheelCancelsRow.domain false) (Rows.wheelCancelsSpec.post enc Try.prog Try.f12 false true false false) :=
  frame_lifted (C := Try.checked) own started (by kernel_rfl) Try.func12
    (ChangeSpec.witness6 (enc := enc) (C := Try.checked) false ⟨#[], #[.int .i64 0, .slice none 0 0, .agg #[.int .i64 0, .int .i64 0], .int .i64 0], []⟩ 8 (by kernel_rfl) (by kernel_rfl) (by kernel_rfl) (by kernel_rfl)) laidOut (by kernel_rfl) rfl (by rfl) Try.underlying4
    (fun ds h => match ds, h with | [d0, d1, d2, d3], _ => ⟨rfl, rfl, rfl⟩) (walks enc)

theorem over : Rows.wheelCancelsRow.holds Try.pinned (OpenSpec.ofChange Rows.wheelCancelsSpec) :=
  OpenClaim.holds_of_wide 12 Try.f12 rfl rfl rfl rfl rfl rfl rfl ⟨rfl, rfl, rfl, rfl, rfl⟩ rfl rfl rfl rfl rfl (by kernel_rfl) Try.func12 (by kernel_rfl)
    (of_decide_eq_true (by kernel_rfl)) (by unfold Func.isWrapper; first | (rw [if_pos (by decide +kernel)]; kernel_rfl) | (rw [if_neg (by decide +kernel)]; exact ⟨rfl, rfl⟩))
    (fun os started H enc _ => lifted os started H enc)

/-- the statement -/
theorem proved : Rows.WheelCancelsSaid := over
end Go.Proofs.Ytheocdfccdpmbaa.lawWheelCancels
