/-
  WheelScripts: every script of insertions, cancels and advances.
  No condition.
-/
import Derived.Test.YtheocdfccdpmbaaWhV
namespace Go.Proofs.Ytheocdfccdpmbaa.lawWheelScripts
open Go.ChangeShapes Go.WideShapes Go.ChangeAt Go.RowKit Go.Deep
set_option linter.unusedVariables false
set_option linter.unusedSimpArgs false
set_option maxHeartbeats 8000000

theorem rd_of {W : World} {base n c : Nat} {A : Option Addr} {l : List Itm} (h : OwnL layW 31 W base (.slice A n c) l) : RdL layW W A l := by
  obtain ⟨A', cap', e, -, -, hrd, -⟩ := h.form
  injection e with e _ _
  subst e
  exact hrd
set_option maxRecDepth 100000 in
theorem walk (now : Int) (A : Option Addr) (cap : Nat) (xs : List Stp) (w : World) (hR : Hid (RdL layP w A xs)) (hG : Hid (∀ i, i < xs.length → B64 (xs.getD i default).i.id)) (hlx : xs.length ≤ 20000000000000) :
    Calls Try.prog 10 #[.int .i64 now, .slice A xs.length cap] w fun e w' => e = .returned (.bool true) ∧ Below w.heap.size w w' := by
  have HLX := Lib.hid hlx
  clear hlx
  go_enter Try.func10, Try.ntmps10
  go_wp2_with fail
  refine (wheel_awake w).mono ?_
  rintro e w1 ⟨rfl, hb1⟩
  have HB1 := Lib.hid hb1
  have HR1 := Lib.hid (hR.out.bel hb1)
  clear hb1 hR
  by_cases c : 0 ≤ now ∧ now ≤ 226157759
  case neg =>
    by_cases c0 : now < 0
    · go_wp2_with fail
      refine (new_no now c w1).mono ?_
      rintro e w2 ⟨rfl, rfl⟩
      go_wp2_with fail
      go_ret
      exact ⟨rfl, HB1.out⟩
    · have c1 : 226157759 < now := by omega
      go_wp2_with fail
      refine (new_no now c w1).mono ?_
      rintro e w2 ⟨rfl, rfl⟩
      go_wp2_with fail
      go_ret
      exact ⟨rfl, HB1.out⟩
  have c0 : ¬ now < 0 := by omega
  have c1 : ¬ 226157759 < now := by omega
  go_wp2_with fail
  refine (new_ok now c.1 c.2 w1).mono ?_
  rintro e w2 ⟨g, mb, rfl, h2⟩
  have H3 := Lib.hid (duo_new h2)
  clear h2 c
  go_upto_region 9 with (fail)
  generalize w2.alloc (.cells #[.int .i64 now, .slice none 0 0] 64) = w3 at *
  generalize w2.heap.size = rg at *
  clear c0 c1
  go_wp2_with fail
  go_loopg [8, 9, 10, 11, 12, 13, 81, 92] (min xs.length 400) (fun n v8 v9 v10 v11 v12 v13 v81 v92 W => ∃ (k : Nat) (nw : Int) (S : List Itm), v8 = .int .i64 k ∧ n + k = min xs.length 400 ∧ Hid (Duo w1 ⟨g, mb, nw, S⟩ rg nw S [] W))
  case atStart => exact ⟨0, now, [], rfl, rfl, H3⟩
  case round =>
    clear H3
    obtain ⟨k, nw, S, rfl, hnk, HI⟩ := hrel
    have HN := Lib.hid hnk
    by_cases hk : k < xs.length ∧ k < 400
    · obtain ⟨hk1, hk2⟩ := hk
      have hki : (k : Int) < (xs.length : Int) := by omega
      have hkj : (k : Int) < 400 := by omega
      obtain ⟨n, rfl⟩ : ∃ n, gk = n + 1 := ⟨gk - 1, by omega⟩
      obtain ⟨b, off, hbA, hlt, e0, e1, e2, e3⟩ := HR1.out.stp k hk1
      have hg0 := hG.out k hk1
      obtain ⟨⟨kd, ⟨id, a⟩, t⟩, hx⟩ : ∃ x, x = xs.getD k default := ⟨_, rfl⟩
      rw [← hx] at e0 e1 e2 e3 hg0
      have f0 : wr.cell? ⟨b, off + k * 4, none⟩ = some (.int .i64 kd) := HI.out.cell hlt e0
      have f1 : wr.cell? ⟨b, off + k * 4 + 1, none⟩ = some (.int .i64 id) := HI.out.cell hlt e1
      have f2 : wr.cell? ⟨b, off + k * 4 + 2, none⟩ = some (.int .i64 a) := HI.out.cell hlt e2
      have f3 : wr.cell? ⟨b, off + k * 4 + 3, none⟩ = some (.int .i64 t) := HI.out.cell hlt e3
      have hid0 : -9223372036854775808 ≤ id := hg0.1
      have hid1 : id ≤ 9223372036854775807 := hg0.2
      have HAE := Lib.hid hbA
      have HSS := Lib.hid HI.out.sorted
      have HSI := Lib.hid HI.out.ids
      have HSL := Lib.hid HI.out.len
      have HS0 := Lib.hid HI.out.n0
      clear e0 e1 e2 e3 hg0 hx hlt hbA hnk
      rw [HAE.out]
      go_upto_region 13 with (fail)
      have HK := Lib.hid (Blk.new wr 66 #[.int .i64 kd, .int .i64 id, .int .i64 a, .int .i64 t])
      have HD : Hid (Duo w1 ⟨g, mb, nw, S⟩ rg nw S [(some ⟨wr.heap.size, 1, none⟩, [⟨id, a⟩]), (some ⟨wr.heap.size, 2, none⟩, [⟨a, t⟩])] (wr.alloc (.cells #[.int .i64 kd, .int .i64 id, .int .i64 a, .int .i64 t] 66))) := Lib.hid (HI.out.more (new := [(some ⟨wr.heap.size, 1, none⟩, [⟨id, a⟩]), (some ⟨wr.heap.size, 2, none⟩, [⟨a, t⟩])]) (bel_new (Below.refl wr.heap.size wr) _) (fun r hm => by
        rcases List.mem_cons.1 hm with rfl | hm
        · exact ⟨rdL_one HK.out.lt (HK.out.cells 1) (HK.out.cells 2), fun b off e => by injection e with e; injection e with e _ _; subst e; exact ⟨Nat.le_refl _, HK.out.lt⟩⟩
        · obtain rfl := List.mem_singleton.1 hm
          exact ⟨rdL_one HK.out.lt (HK.out.cells 2) (HK.out.cells 3), fun b off e => by injection e with e; injection e with e _ _; subst e; exact ⟨Nat.le_refl _, HK.out.lt⟩⟩))
      clear f0 f1 f2 f3 HI
      generalize wr.heap.size = gd at *
      generalize wr.alloc (.cells #[.int .i64 kd, .int .i64 id, .int .i64 a, .int .i64 t] 66) = w4 at *
      have k0 : w4.cell? ⟨gd, 0, none⟩ = some (.int .i64 kd) := HK.out.cells 0
      have k1 : w4.cell? ⟨gd, 1, none⟩ = some (.int .i64 id) := HK.out.cells 1
      have k2 : w4.cell? ⟨gd, 2, none⟩ = some (.int .i64 a) := HK.out.cells 2
      have k3 : w4.cell? ⟨gd, 3, none⟩ = some (.int .i64 t) := HK.out.cells 3
      by_cases b0 : kd = 0
      · have d0 : (kd == 0) = true := by simpa using b0
        clear b0
        obtain ⟨x, hx⟩ : ∃ x, x = Wh.insE nw S ⟨id, a⟩ := ⟨_, rfl⟩
        have HX := Lib.hid hx
        have y1 : (x == x) = true := by simp
        clear hx
        go_upto_region 19 with (fail)
        clear k0 k3
        go_region_held3 (fun W => W.cell? ⟨gd, 1, none⟩ = some (.int .i64 id) ∧ W.cell? ⟨gd, 2, none⟩ = some (.int .i64 a)) (go_keep) (first
          | (go_at_call 15; refine (duo_insert (Lib.hid (HD.out.bel (bel_drew (Below.refl _ _)))) ⟨id, a⟩ hid0 hid1).mono ?_; rintro e w5 ⟨rfl, h5⟩; have H5 := Lib.hid h5; rw [← HX.out]; obtain ⟨k1, k2⟩ := H5.out.cells (g := gd) (off := 1) (x := ⟨id, a⟩) (by simp); clear h5)
          | (go_at_call 35; refine (duo_rinsert H5 HSS HSL.out HS0.out ⟨id, a⟩).mono ?_; rintro e w6 ⟨rfl, h6⟩; have H6 := Lib.hid h6; rw [← HX.out]; obtain ⟨k1, k2⟩ := H6.out.cells (g := gd) (off := 1) (x := ⟨id, a⟩) (by simp); clear h6))
        obtain ⟨S2, hS2⟩ : ∃ S2, S2 = Wh.insS nw S ⟨id, a⟩ := ⟨_, rfl⟩
        have H7 : Hid (Duo w1 ⟨g, mb, nw, S2⟩ rg nw S2 [] w6) := Lib.hid (by rw [hS2]; exact H6.out.nil)
        clear hS2 H6 H5 k1 k2 HX
        go_upto_region 24 with (fail)
        have H24 : Hid (Duo w1 ⟨g, mb, nw, S2⟩ rg nw S2 [] _) := Lib.hid H7.out.nil
        obtain ⟨v, hbk, hown⟩ := H24.out.ref
        obtain ⟨A9, c9, rfl, -, -, -, -⟩ := hown.form
        have z0 := hbk.cells 0
        have z1 := hbk.cells 1
        simp only [List.getElem?_toArray, List.getElem?_cons_zero, List.getElem?_cons_succ] at z0 z1
        have HBK := Lib.hid hbk
        have HOW := Lib.hid hown
        have y1 : (nw == nw) = true := by simp
        have HL4 : Hid ((S2 : List Itm).length ≤ 1000000) := Lib.hid (by have := H24.out.len; simp only at this; omega)
        clear hbk hown
        by_cases cm : k % 16 = 0
        · have hm1 : Int.tmod (k : Int) 16 = 0 := by rw [Int.tmod_eq_emod_of_nonneg (by omega)]; omega
          clear cm
          go_region_held3 (fun W => W.cell? ⟨rg, 0, none⟩ = some (.int .i64 nw) ∧ W.cell? ⟨rg, 1, none⟩ = some (.slice A9 (S2).length c9)) (go_keep) (first
            | (go_at_call 19; refine (duo_now (Lib.hid (H24.out.bel (bel_drew (Below.refl _ _))))).mono ?_; rintro e w25 ⟨rfl, rfl⟩)
            | (go_at_call 18; refine (duo_waiting (Lib.hid (H24.out.bel (bel_drew (Below.refl _ _))))).mono ?_; rintro e w26 ⟨A7, c7, rfl, hr7, hb7⟩; have HR7 := Lib.hid hr7; have H26 := Lib.hid ((H24.out.bel (bel_drew (Below.refl _ _))).bel hb7); have HBK7 := Lib.hid ((HBK.out.bel (bel_drew (Below.refl _ _))).bel hb7); have HOW7 := Lib.hid ((HOW.out.kept (bel_drew (Below.refl _ _))).kept hb7); have z0 := HBK7.out.cells 0; have z1 := HBK7.out.cells 1; simp only [List.getElem?_toArray, List.getElem?_cons_zero, List.getElem?_cons_succ] at z0 z1; clear hr7 hb7)
            | (go_at_call 17; refine (items_calls A7 A9 c7 c9 S2 _ HR7 (Lib.hid (rd_of HOW7.out)) HL4.out).mono ?_; rintro e w27 ⟨rfl, hb27⟩; have H27 := Lib.hid (H26.out.bel hb27); have HBK8 := Lib.hid (HBK7.out.bel hb27); have z0 := HBK8.out.cells 0; have z1 := HBK8.out.cells 1; simp only [List.getElem?_toArray, List.getElem?_cons_zero, List.getElem?_cons_succ] at z0 z1; clear hb27))
          all_goals
            go_wp2_with fail
            rw [← HAE.out]
            go_roundg n
            case rel => exact ⟨k + 1, nw, S2, by go_num, by have := HN.out; omega, H27⟩
            case measure => omega
        · obtain ⟨r, hr⟩ : ∃ r : Nat, r = k % 16 := ⟨_, rfl⟩
          have hm1 : Int.tmod (k : Int) 16 = (r : Int) := by rw [Int.tmod_eq_emod_of_nonneg (by omega)]; omega
          have hm2 : ((r : Int) == 0) = false := by rw [beq_eq_false_iff_ne]; omega
          have hm3 : (r : Int) < 16 := by omega
          have hm4 : IntKind.i64.wrap (r : Int) = (r : Int) := IntWalk.i64_in _ (by omega)
          clear hr
          have HNW := Lib.hid (fun W (hb : Below _ _ W) => duo_now (Lib.hid (H24.out.bel hb)))
          go_quiet ((go_at_call 19; exact quiet_of_eq (HNW.out _ (bel_drewN (Below.refl _ _) _))))
          have H27 := Lib.hid (H24.out.bel (bel_drewN (Below.refl _ _) nq))
          go_wp2_with fail
          rw [← HAE.out]
          go_roundg n
          case rel => exact ⟨k + 1, nw, S2, by go_num, by have := HN.out; omega, H27⟩
          case measure => omega
      · have d0 : (kd == 0) = false := by simpa using b0
        clear b0
        by_cases b1 : kd = 1
        · have d1 : (kd == 1) = true := by simpa using b1
          clear b1
          obtain ⟨x, hx⟩ : ∃ x, x = Wh.hasId S id := ⟨_, rfl⟩
          have HX := Lib.hid hx
          have y1 : (x == x) = true := by simp
          clear hx
          go_upto_region 22 with (fail)
          clear k0 k3 k2
          go_region_held3 (fun W => W.cell? ⟨gd, 1, none⟩ = some (.int .i64 id)) (go_keep) (first
            | (go_at_call 36; refine (duo_cancel (Lib.hid (HD.out.bel (bel_drew (Below.refl _ _)))) id hid0 hid1).mono ?_; rintro e w5 ⟨rfl, h5⟩; have H5 := Lib.hid h5; rw [← HX.out]; obtain ⟨k1, -⟩ := H5.out.cells (g := gd) (off := 1) (x := ⟨id, a⟩) (by simp); clear h5)
            | (go_at_call 37; refine (duo_rcancel H5 HSI HSL.out id).mono ?_; rintro e w6 ⟨rfl, h6⟩; have H6 := Lib.hid h6; rw [← HX.out]; obtain ⟨k1, -⟩ := H6.out.cells (g := gd) (off := 1) (x := ⟨id, a⟩) (by simp); clear h6))
          obtain ⟨S2, hS2⟩ : ∃ S2, S2 = Wh.del id S := ⟨_, rfl⟩
          have H7 : Hid (Duo w1 ⟨g, mb, nw, S2⟩ rg nw S2 [] w6) := Lib.hid (by rw [hS2]; exact H6.out.nil)
          clear hS2 H6 H5 k1 HX
          go_upto_region 24 with (fail)
          have H24 : Hid (Duo w1 ⟨g, mb, nw, S2⟩ rg nw S2 [] _) := Lib.hid H7.out.nil
          obtain ⟨v, hbk, hown⟩ := H24.out.ref
          obtain ⟨A9, c9, rfl, -, -, -, -⟩ := hown.form
          have z0 := hbk.cells 0
          have z1 := hbk.cells 1
          simp only [List.getElem?_toArray, List.getElem?_cons_zero, List.getElem?_cons_succ] at z0 z1
          have HBK := Lib.hid hbk
          have HOW := Lib.hid hown
          have y1 : (nw == nw) = true := by simp
          have HL4 : Hid ((S2 : List Itm).length ≤ 1000000) := Lib.hid (by have := H24.out.len; simp only at this; omega)
          clear hbk hown
          by_cases cm : k % 16 = 0
          · have hm1 : Int.tmod (k : Int) 16 = 0 := by rw [Int.tmod_eq_emod_of_nonneg (by omega)]; omega
            clear cm
            go_region_held3 (fun W => W.cell? ⟨rg, 0, none⟩ = some (.int .i64 nw) ∧ W.cell? ⟨rg, 1, none⟩ = some (.slice A9 (S2).length c9)) (go_keep) (first
              | (go_at_call 19; refine (duo_now (Lib.hid (H24.out.bel (bel_drew (Below.refl _ _))))).mono ?_; rintro e w25 ⟨rfl, rfl⟩)
              | (go_at_call 18; refine (duo_waiting (Lib.hid (H24.out.bel (bel_drew (Below.refl _ _))))).mono ?_; rintro e w26 ⟨A7, c7, rfl, hr7, hb7⟩; have HR7 := Lib.hid hr7; have H26 := Lib.hid ((H24.out.bel (bel_drew (Below.refl _ _))).bel hb7); have HBK7 := Lib.hid ((HBK.out.bel (bel_drew (Below.refl _ _))).bel hb7); have HOW7 := Lib.hid ((HOW.out.kept (bel_drew (Below.refl _ _))).kept hb7); have z0 := HBK7.out.cells 0; have z1 := HBK7.out.cells 1; simp only [List.getElem?_toArray, List.getElem?_cons_zero, List.getElem?_cons_succ] at z0 z1; clear hr7 hb7)
              | (go_at_call 17; refine (items_calls A7 A9 c7 c9 S2 _ HR7 (Lib.hid (rd_of HOW7.out)) HL4.out).mono ?_; rintro e w27 ⟨rfl, hb27⟩; have H27 := Lib.hid (H26.out.bel hb27); have HBK8 := Lib.hid (HBK7.out.bel hb27); have z0 := HBK8.out.cells 0; have z1 := HBK8.out.cells 1; simp only [List.getElem?_toArray, List.getElem?_cons_zero, List.getElem?_cons_succ] at z0 z1; clear hb27))
            all_goals
              go_wp2_with fail
              rw [← HAE.out]
              go_roundg n
              case rel => exact ⟨k + 1, nw, S2, by go_num, by have := HN.out; omega, H27⟩
              case measure => omega
          · obtain ⟨r, hr⟩ : ∃ r : Nat, r = k % 16 := ⟨_, rfl⟩
            have hm1 : Int.tmod (k : Int) 16 = (r : Int) := by rw [Int.tmod_eq_emod_of_nonneg (by omega)]; omega
            have hm2 : ((r : Int) == 0) = false := by rw [beq_eq_false_iff_ne]; omega
            have hm3 : (r : Int) < 16 := by omega
            have hm4 : IntKind.i64.wrap (r : Int) = (r : Int) := IntWalk.i64_in _ (by omega)
            clear hr
            have HNW := Lib.hid (fun W (hb : Below _ _ W) => duo_now (Lib.hid (H24.out.bel hb)))
            go_quiet ((go_at_call 19; exact quiet_of_eq (HNW.out _ (bel_drewN (Below.refl _ _) _))))
            have H27 := Lib.hid (H24.out.bel (bel_drewN (Below.refl _ _) nq))
            go_wp2_with fail
            rw [← HAE.out]
            go_roundg n
            case rel => exact ⟨k + 1, nw, S2, by go_num, by have := HN.out; omega, H27⟩
            case measure => omega
        · have d1 : (kd == 1) = false := by simpa using b1
          clear b1
          by_cases ca : advE nw t = 0
          · go_upto_region 14 with (fail)
            clear k0 k1 k2
            go_wp2_with fail
            refine (duo_ok HD t ca).mono ?_
            rintro e w5 ⟨A1, c1, rfl, h5⟩
            have H5 : Hid (Duo w1 ⟨g, mb, t, Wh.past t S⟩ rg nw S [(A1, Wh.upto t S), (some ⟨gd, 1, none⟩, [⟨id, a⟩]), (some ⟨gd, 2, none⟩, [⟨a, t⟩])] w5) := Lib.hid h5
            obtain ⟨-, k4⟩ := H5.out.cells (g := gd) (off := 2) (x := ⟨a, t⟩) (by simp)
            have k4 : w5.cell? ⟨gd, 3, none⟩ = some (.int .i64 t) := k4
            clear h5 k3
            go_wp2_with fail
            refine (duo_rok H5 HSS HSL.out t ca).mono ?_
            rintro e w6 ⟨A2, c2, rfl, h6, hr6⟩
            have H6 := Lib.hid h6
            have HR6 := Lib.hid hr6
            have HU6 : Hid ((Wh.upto t S).length ≤ 1000000) := Lib.hid (by have := upto_len t S; have := HSL.out; omega)
            clear h6 hr6 k4
            go_wp2_with fail
            refine (items_calls A1 A2 c1 c2 (Wh.upto t S) w6 (Lib.hid (H6.out.rd (A := A1) (l := Wh.upto t S) (by simp))) HR6 HU6.out).mono ?_
            rintro e w7 ⟨rfl, hb7⟩
            have H7 := Lib.hid (H6.out.bel hb7)
            clear hb7 H6 H5
            go_upto_region 24 with (fail)
            have H24 : Hid (Duo w1 ⟨g, mb, t, (Wh.past t S)⟩ rg t (Wh.past t S) [] _) := Lib.hid H7.out.nil
            obtain ⟨v, hbk, hown⟩ := H24.out.ref
            obtain ⟨A9, c9, rfl, -, -, -, -⟩ := hown.form
            have z0 := hbk.cells 0
            have z1 := hbk.cells 1
            simp only [List.getElem?_toArray, List.getElem?_cons_zero, List.getElem?_cons_succ] at z0 z1
            have HBK := Lib.hid hbk
            have HOW := Lib.hid hown
            have y1 : (t == t) = true := by simp
            have HL4 : Hid (((Wh.past t S) : List Itm).length ≤ 1000000) := Lib.hid (by have := H24.out.len; simp only at this; omega)
            clear hbk hown
            by_cases cm : k % 16 = 0
            · have hm1 : Int.tmod (k : Int) 16 = 0 := by rw [Int.tmod_eq_emod_of_nonneg (by omega)]; omega
              clear cm
              go_region_held3 (fun W => W.cell? ⟨rg, 0, none⟩ = some (.int .i64 t) ∧ W.cell? ⟨rg, 1, none⟩ = some (.slice A9 ((Wh.past t S)).length c9)) (go_keep) (first
                | (go_at_call 19; refine (duo_now (Lib.hid (H24.out.bel (bel_drew (Below.refl _ _))))).mono ?_; rintro e w25 ⟨rfl, rfl⟩)
                | (go_at_call 18; refine (duo_waiting (Lib.hid (H24.out.bel (bel_drew (Below.refl _ _))))).mono ?_; rintro e w26 ⟨A7, c7, rfl, hr7, hb7⟩; have HR7 := Lib.hid hr7; have H26 := Lib.hid ((H24.out.bel (bel_drew (Below.refl _ _))).bel hb7); have HBK7 := Lib.hid ((HBK.out.bel (bel_drew (Below.refl _ _))).bel hb7); have HOW7 := Lib.hid ((HOW.out.kept (bel_drew (Below.refl _ _))).kept hb7); have z0 := HBK7.out.cells 0; have z1 := HBK7.out.cells 1; simp only [List.getElem?_toArray, List.getElem?_cons_zero, List.getElem?_cons_succ] at z0 z1; clear hr7 hb7)
                | (go_at_call 17; refine (items_calls A7 A9 c7 c9 (Wh.past t S) _ HR7 (Lib.hid (rd_of HOW7.out)) HL4.out).mono ?_; rintro e w27 ⟨rfl, hb27⟩; have H27 := Lib.hid (H26.out.bel hb27); have HBK8 := Lib.hid (HBK7.out.bel hb27); have z0 := HBK8.out.cells 0; have z1 := HBK8.out.cells 1; simp only [List.getElem?_toArray, List.getElem?_cons_zero, List.getElem?_cons_succ] at z0 z1; clear hb27))
              all_goals
                go_wp2_with fail
                rw [← HAE.out]
                go_roundg n
                case rel => exact ⟨k + 1, t, (Wh.past t S), by go_num, by have := HN.out; omega, H27⟩
                case measure => omega
            · obtain ⟨r, hr⟩ : ∃ r : Nat, r = k % 16 := ⟨_, rfl⟩
              have hm1 : Int.tmod (k : Int) 16 = (r : Int) := by rw [Int.tmod_eq_emod_of_nonneg (by omega)]; omega
              have hm2 : ((r : Int) == 0) = false := by rw [beq_eq_false_iff_ne]; omega
              have hm3 : (r : Int) < 16 := by omega
              have hm4 : IntKind.i64.wrap (r : Int) = (r : Int) := IntWalk.i64_in _ (by omega)
              clear hr
              have HNW := Lib.hid (fun W (hb : Below _ _ W) => duo_now (Lib.hid (H24.out.bel hb)))
              go_quiet ((go_at_call 19; exact quiet_of_eq (HNW.out _ (bel_drewN (Below.refl _ _) _))))
              have H27 := Lib.hid (H24.out.bel (bel_drewN (Below.refl _ _) nq))
              go_wp2_with fail
              rw [← HAE.out]
              go_roundg n
              case rel => exact ⟨k + 1, t, (Wh.past t S), by go_num, by have := HN.out; omega, H27⟩
              case measure => omega
          · go_upto_region 14 with (fail)
            clear k0 k1 k2
            go_wp2_with fail
            refine (duo_no HD t ca).mono ?_
            rintro e w5 ⟨rfl, h5⟩
            have H5 := Lib.hid h5
            obtain ⟨-, k4⟩ := H5.out.cells (g := gd) (off := 2) (x := ⟨a, t⟩) (by simp)
            have k4 : w5.cell? ⟨gd, 3, none⟩ = some (.int .i64 t) := k4
            clear h5 k3
            go_wp2_with fail
            refine (duo_rno H5 HSS HSL.out t ca).mono ?_
            rintro e w6 ⟨rfl, h6⟩
            have H6 := Lib.hid h6
            clear h6 k4
            go_wp2_with fail
            refine (items_calls none none 0 0 [] w6 (Lib.hid (RdL.nil _ _)) (Lib.hid (RdL.nil _ _)) (by simp)).mono ?_
            rintro e w7 ⟨rfl, hb7⟩
            have H7 := Lib.hid (H6.out.bel hb7)
            clear hb7 H6 H5
            go_upto_region 24 with (fail)
            have H24 : Hid (Duo w1 ⟨g, mb, nw, S⟩ rg nw S [] _) := Lib.hid H7.out.nil
            obtain ⟨v, hbk, hown⟩ := H24.out.ref
            obtain ⟨A9, c9, rfl, -, -, -, -⟩ := hown.form
            have z0 := hbk.cells 0
            have z1 := hbk.cells 1
            simp only [List.getElem?_toArray, List.getElem?_cons_zero, List.getElem?_cons_succ] at z0 z1
            have HBK := Lib.hid hbk
            have HOW := Lib.hid hown
            have y1 : (nw == nw) = true := by simp
            have HL4 : Hid ((S : List Itm).length ≤ 1000000) := Lib.hid (by have := H24.out.len; simp only at this; omega)
            clear hbk hown
            by_cases cm : k % 16 = 0
            · have hm1 : Int.tmod (k : Int) 16 = 0 := by rw [Int.tmod_eq_emod_of_nonneg (by omega)]; omega
              clear cm
              go_region_held3 (fun W => W.cell? ⟨rg, 0, none⟩ = some (.int .i64 nw) ∧ W.cell? ⟨rg, 1, none⟩ = some (.slice A9 (S).length c9)) (go_keep) (first
                | (go_at_call 19; refine (duo_now (Lib.hid (H24.out.bel (bel_drew (Below.refl _ _))))).mono ?_; rintro e w25 ⟨rfl, rfl⟩)
                | (go_at_call 18; refine (duo_waiting (Lib.hid (H24.out.bel (bel_drew (Below.refl _ _))))).mono ?_; rintro e w26 ⟨A7, c7, rfl, hr7, hb7⟩; have HR7 := Lib.hid hr7; have H26 := Lib.hid ((H24.out.bel (bel_drew (Below.refl _ _))).bel hb7); have HBK7 := Lib.hid ((HBK.out.bel (bel_drew (Below.refl _ _))).bel hb7); have HOW7 := Lib.hid ((HOW.out.kept (bel_drew (Below.refl _ _))).kept hb7); have z0 := HBK7.out.cells 0; have z1 := HBK7.out.cells 1; simp only [List.getElem?_toArray, List.getElem?_cons_zero, List.getElem?_cons_succ] at z0 z1; clear hr7 hb7)
                | (go_at_call 17; refine (items_calls A7 A9 c7 c9 S _ HR7 (Lib.hid (rd_of HOW7.out)) HL4.out).mono ?_; rintro e w27 ⟨rfl, hb27⟩; have H27 := Lib.hid (H26.out.bel hb27); have HBK8 := Lib.hid (HBK7.out.bel hb27); have z0 := HBK8.out.cells 0; have z1 := HBK8.out.cells 1; simp only [List.getElem?_toArray, List.getElem?_cons_zero, List.getElem?_cons_succ] at z0 z1; clear hb27))
              all_goals
                go_wp2_with fail
                rw [← HAE.out]
                go_roundg n
                case rel => exact ⟨k + 1, nw, S, by go_num, by have := HN.out; omega, H27⟩
                case measure => omega
            · obtain ⟨r, hr⟩ : ∃ r : Nat, r = k % 16 := ⟨_, rfl⟩
              have hm1 : Int.tmod (k : Int) 16 = (r : Int) := by rw [Int.tmod_eq_emod_of_nonneg (by omega)]; omega
              have hm2 : ((r : Int) == 0) = false := by rw [beq_eq_false_iff_ne]; omega
              have hm3 : (r : Int) < 16 := by omega
              have hm4 : IntKind.i64.wrap (r : Int) = (r : Int) := IntWalk.i64_in _ (by omega)
              clear hr
              have HNW := Lib.hid (fun W (hb : Below _ _ W) => duo_now (Lib.hid (H24.out.bel hb)))
              go_quiet ((go_at_call 19; exact quiet_of_eq (HNW.out _ (bel_drewN (Below.refl _ _) _))))
              have H27 := Lib.hid (H24.out.bel (bel_drewN (Below.refl _ _) nq))
              go_wp2_with fail
              rw [← HAE.out]
              go_roundg n
              case rel => exact ⟨k + 1, nw, S, by go_num, by have := HN.out; omega, H27⟩
              case measure => omega
    · have HK : Hid (¬ (k < xs.length ∧ k < 400)) := Lib.hid hk
      clear hk hnk
      go_upto_region 10 with (fail)
      go_cut [49] (fun s W => s = .bool false ∧ Hid (Duo w1 ⟨g, mb, nw, S⟩ rg nw S [] W))
      case first =>
        by_cases hk1 : k < xs.length
        · have hki : (k : Int) < (xs.length : Int) := by omega
          have hkj : ¬ (k : Int) < 400 := by have := HK.out; omega
          go_wp2_with fail
          go_meet
          exact ⟨rfl, HI⟩
        · have hki : ¬ (k : Int) < (xs.length : Int) := by omega
          go_wp2_with fail
          go_meet
          exact ⟨rfl, HI⟩
      case rest =>
        obtain ⟨rfl, H24⟩ := hcut
        clear HI HK
        go_upto_region 26 with (fail)
        generalize wc = w24 at *
        obtain ⟨v, hbk, hown⟩ := H24.out.ref
        obtain ⟨A9, c9, rfl, -, -, -, -⟩ := hown.form
        have z1 := hbk.cells 1
        simp only [List.getElem?_toArray, List.getElem?_cons_zero, List.getElem?_cons_succ] at z1
        have HBK := Lib.hid hbk
        have HOW := Lib.hid hown
        have HL4 : Hid ((S : List Itm).length ≤ 1000000) := Lib.hid (by have := H24.out.len; simp only at this; omega)
        clear hbk hown
        go_region_held3 (fun W => W.cell? ⟨rg, 1, none⟩ = some (.slice A9 S.length c9)) (go_keep) (first
          | (go_at_call 18; refine (duo_waiting (Lib.hid (H24.out.bel (bel_drew (Below.refl _ _))))).mono ?_; rintro e w26 ⟨A7, c7, rfl, hr7, hb7⟩; have HR7 := Lib.hid hr7; have H26 := Lib.hid ((H24.out.bel (bel_drew (Below.refl _ _))).bel hb7); have HBK7 := Lib.hid ((HBK.out.bel (bel_drew (Below.refl _ _))).bel hb7); have HOW7 := Lib.hid ((HOW.out.kept (bel_drew (Below.refl _ _))).kept hb7); have z1 := HBK7.out.cells 1; simp only [List.getElem?_toArray, List.getElem?_cons_zero, List.getElem?_cons_succ] at z1; clear hr7 hb7)
          | (go_at_call 17; refine (items_calls A7 A9 c7 c9 S _ HR7 (Lib.hid (rd_of HOW7.out)) HL4.out).mono ?_; rintro e w27 ⟨rfl, hb27⟩; have H27 := Lib.hid (H26.out.bel hb27); have HBK8 := Lib.hid (HBK7.out.bel hb27); have z1 := HBK8.out.cells 1; simp only [List.getElem?_toArray, List.getElem?_cons_zero, List.getElem?_cons_succ] at z1; clear hb27))
        all_goals
          go_wp2_with fail
          go_ret
          exact ⟨rfl, bel_tr HB1.out H27.out.below⟩

set_option maxRecDepth 100000 in
theorem walks {H : Type} (enc : TypeId × Value → H) : Walks enc Try.prog 10 Try.f10 := by
  intro W base args ds ps hval hA hwt
  rw [Try.params10] at hA hval hwt
  obtain ⟨v0, vs0, d0, ds0, p0, q0, hargs, rfl, rfl, h0, r0⟩ := trodAll_cons hA
  obtain ⟨v1, vs1, d1, ds1, p1, q1, rfl, rfl, rfl, h1, r1⟩ := trodAll_cons r0
  obtain ⟨rfl, rfl, rfl⟩ := trodAll_nil r1
  obtain rfl : args = #[v0, v1] := by cases args; simp_all
  obtain ⟨n, rfl, rfl, rfl, _⟩ := open_int Try.underlying2 (hval 0 2 v0 rfl rfl) h0
  obtain ⟨A, xs, cap, rfl, a1, b1, c1, g1⟩ := steps_arg (hval 1 61 v1 rfl rfl) h1 (weightsEach_at (i := 1) hwt rfl rfl)
  exact walk n A cap xs W (Lib.hid c1) (Lib.hid g1) (by omega)

set_option maxRecDepth 100000 in
theorem lifted (os : Os) (started : os.Started) (H : Type) (enc : TypeId × Value → H) :
    ReturnsInHanded {} Try.checked os 10 .any (Rows.wheelScriptsSpec.pre6 enc Try.prog Try.f10 Rows.wheelScriptsRow.domain false) (Rows.wheelScriptsSpec.post enc Try.prog Try.f10 false true false false) :=
  frame_lifted (C := Try.checked) own started (by kernel_rfl) Try.func10
    (ChangeSpec.witness6 (enc := enc) (C := Try.checked) false ⟨#[], #[.int .i64 0, .slice none 0 0], []⟩ 8 (by kernel_rfl) (by kernel_rfl) (by kernel_rfl) (by kernel_rfl)) laidOut (by kernel_rfl) rfl (by rfl) Try.underlying4
    (fun ds h => match ds, h with | [d0, d1], _ => ⟨rfl, rfl, rfl⟩) (walks enc)

theorem over : Rows.wheelScriptsRow.holds Try.pinned (OpenSpec.ofChange Rows.wheelScriptsSpec) :=
  OpenClaim.holds_of_wide 10 Try.f10 rfl rfl rfl rfl rfl rfl rfl ⟨rfl, rfl, rfl, rfl, rfl⟩ rfl rfl rfl rfl rfl (by kernel_rfl) Try.func10 (by kernel_rfl)
    (of_decide_eq_true (by kernel_rfl)) (by unfold Func.isWrapper; first | (rw [if_pos (by decide +kernel)]; kernel_rfl) | (rw [if_neg (by decide +kernel)]; exact ⟨rfl, rfl⟩))
    (fun os started H enc _ => lifted os started H enc)

/-- the statement -/
theorem proved : Rows.WheelScriptsSaid := over
end Go.Proofs.Ytheocdfccdpmbaa.lawWheelScripts
