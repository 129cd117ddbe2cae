/-
  WheelSteps: advancing in several steps answers what advancing at once answers.
  No condition.
-/
import Derived.Test.YtheocdfccdpmbaaWhG
import Derived.BigQuiet
import Derived.Deep.Cut
import Derived.Deep.RegionHeld3
import Derived.Deep.DeepCutAuto
namespace Go.Proofs.Ytheocdfccdpmbaa.lawWheelSteps
open Go.ChangeShapes Go.WideShapes Go.ChangeAt Go.RowKit Go.Deep
set_option linter.unusedVariables false
set_option linter.unusedSimpArgs false
set_option maxHeartbeats 8000000

set_option maxRecDepth 100000 in
theorem walk (now tt : Int) (A : Option Addr) (cap : Nat) (xs : List Itm) (T : Option Addr) (tc : Nat) (ss : List Int) (w : World) (hR : Hid (RdL layW w A xs)) (hG : Hid (∀ i, i < xs.length → B64 (xs.getD i default).id ∧ B64 (xs.getD i default).at_)) (hT : Hid (RdL (layI .i64) w T ss)) (hlx : xs.length ≤ 20000000000000) (hls : ss.length ≤ 20000000000000) :
    Calls Try.prog 3 #[.int .i64 now, .slice A xs.length cap, .int .i64 tt, .slice T ss.length tc] w fun e w' => e = .returned (.bool true) ∧ Below w.heap.size w w' := by
  have HLX := Lib.hid hlx
  have HLS := Lib.hid hls
  clear hlx hls
  go_enter Try.func3, Try.ntmps3
  go_wp2_with fail
  refine (wheel_awake w).mono ?_
  rintro e w1 ⟨rfl, hb1⟩
  have HB1 := Lib.hid hb1
  have HR1 := Lib.hid (hR.out.bel hb1)
  have HT1 := Lib.hid (hT.out.bel hb1)
  clear hb1 hR hT
  by_cases c : 0 ≤ now ∧ now ≤ 226157759
  case neg =>
    go_wp2_with fail
    refine (new_no now c w1).mono ?_
    rintro e w2 ⟨rfl, rfl⟩
    go_wp2_with fail
    refine (new_no now c w1).mono ?_
    rintro e w2 ⟨rfl, rfl⟩
    go_wp2_with fail
    go_ret
    exact ⟨rfl, HB1.out⟩
  go_wp2_with fail
  refine (new_ok now c.1 c.2 w1).mono ?_
  rintro e w2 ⟨g, mb, rfl, h2⟩
  have H2 := Lib.hid (Stt.of_one h2)
  clear h2
  go_wp2_with fail
  refine (new_ok now c.1 c.2 w2).mono ?_
  rintro e w3 ⟨g2, mb2, rfl, h3⟩
  have H3 := Lib.hid (H2.out.put h3)
  have HC := Lib.hid c
  clear h3 H2 c
  go_wp2_with fail
  go_loopg [13] (min xs.length 400) (fun n v13 W => ∃ (k : Nat), v13 = .int .i64 k ∧ n + k = min xs.length 400 ∧ Hid (Stt w1 ⟨g, mb, now, Wh.insAll now [] (xs.take k)⟩ (some ⟨g2, mb2, now, Wh.insAll now [] (xs.take k)⟩) [] W))
  case atStart => exact ⟨0, rfl, rfl, H3⟩
  case round =>
    clear H3
    obtain ⟨k, rfl, hnk, HI⟩ := hrel
    have HN := Lib.hid hnk
    by_cases hk : k < xs.length ∧ k < 400
    · obtain ⟨hk1, hk2⟩ := hk
      have hki : (k : Int) < (xs.length : Int) := by omega
      have hkj : (k : Int) < 400 := by omega
      obtain ⟨n, rfl⟩ : ∃ n, gk = n + 1 := ⟨gk - 1, by omega⟩
      obtain ⟨b, off, hbA, hlt, e0, e1⟩ := HR1.out.itm k hk1
      obtain ⟨hg0, hg1⟩ := hG.out k hk1
      have HSN : Hid (Wh.insS now (Wh.insAll now [] (xs.take k)) (xs.getD k default) = Wh.insAll now [] (xs.take (k + 1))) := Lib.hid (insS_all hk1)
      obtain ⟨⟨id, a⟩, hit⟩ : ∃ x, x = xs.getD k default := ⟨_, rfl⟩
      rw [← hit] at e0 e1 hg0 hg1 HSN
      have E0 : Hid (w1.cell? ⟨b, off + k * 2, none⟩ = some (.int .i64 id)) := Lib.hid e0
      have E1 : Hid (w1.cell? ⟨b, off + k * 2 + 1, none⟩ = some (.int .i64 a)) := Lib.hid e1
      have HLT := Lib.hid hlt
      have hid0 : -9223372036854775808 ≤ id := hg0.1
      have hid1 : id ≤ 9223372036854775807 := hg0.2
      have f0 : wr.cell? ⟨b, off + k * 2, none⟩ = some (.int .i64 id) := HI.out.cell hlt e0
      have f1 : wr.cell? ⟨b, off + k * 2 + 1, none⟩ = some (.int .i64 a) := HI.out.cell hlt e1
      have hwm : IntKind.i64.wrap (k : Int) = (k : Int) := IntWalk.i64_in _ (by omega)
      have HAE := Lib.hid hbA
      clear e0 e1 hg0 hg1 hit hlt hbA hnk
      rw [HAE.out]
      obtain ⟨x, hx⟩ : ∃ x, x = Wh.insE now (Wh.insAll now [] (xs.take k)) ⟨id, a⟩ := ⟨_, rfl⟩
      have HX := Lib.hid hx
      have y1 : (x == x) = true := by simp
      clear hx
      go_wp2_with fail
      go_region_held3 (fun W => W.cell? ⟨b, off + k * 2, none⟩ = some (.int .i64 id) ∧ W.cell? ⟨b, off + k * 2 + 1, none⟩ = some (.int .i64 a)) (go_keep) (first
        | (go_at_call 15; refine (insert_st (Lib.hid (HJ.out.swap)) ⟨id, a⟩ hid0 hid1).mono ?_; rintro e w5 ⟨rfl, h5⟩; have HJ2 := Lib.hid h5; rw [← HX.out]; have f0 := HJ2.out.cell HLT.out E0.out; have f1 := HJ2.out.cell HLT.out E1.out; clear h5)
        | (go_at_call 15; refine (insert_st (Lib.hid (HI.out.bel (bel_drew (Below.refl _ _)))) ⟨id, a⟩ hid0 hid1).mono ?_; rintro e w4 ⟨rfl, h4⟩; have HJ := Lib.hid h4; rw [← HX.out]; have f0 := HJ.out.cell HLT.out E0.out; have f1 := HJ.out.cell HLT.out E1.out; clear h4))
      have HJ3 : Hid (Stt w1 ⟨g, mb, now, Wh.insAll now [] (xs.take (k + 1))⟩ (some ⟨g2, mb2, now, Wh.insAll now [] (xs.take (k + 1))⟩) [] w5) := Lib.hid (by
        have := HJ2.out.swap
        rwa [HSN.out] at this)
      go_wp2_with fail
      rw [← HAE.out]
      go_roundg n
      case rel => exact ⟨k + 1, by go_num, by have := HN.out; omega, HJ3⟩
      case measure => omega
    · have HK : Hid (¬ (k < xs.length ∧ k < 400)) := Lib.hid hk
      clear hk hnk HN
      generalize Wh.insAll now [] (xs.take k) = S at *
      go_upto_region 8 with (fail)
      go_cut [51] (fun s W => s = .bool false ∧ Hid (Stt w1 ⟨g, mb, now, S⟩ (some ⟨g2, mb2, now, S⟩) [] W))
      case first =>
        by_cases hk1 : k < xs.length
        · have hki : (k : Int) < (xs.length : Int) := by omega
          have hkj : ¬ (k : Int) < 400 := by have := HK.out; omega
          go_wp2_with fail
          go_meet
          exact ⟨rfl, HI⟩
        · have hki : ¬ (k : Int) < (xs.length : Int) := by omega
          go_wp2_with fail
          go_meet
          exact ⟨rfl, HI⟩
      case rest =>
        obtain ⟨rfl, H4⟩ := hcut
        clear HI HK
        by_cases ca : advE now tt = 0
        case neg =>
          go_wp2_with fail
          refine (adv_no H4 tt ca).mono ?_
          rintro e w5 ⟨rfl, h5⟩
          have H5 := Lib.hid h5
          clear h5
          go_wp2_with fail
          go_ret
          exact ⟨rfl, bel_tr HB1.out H5.out.below⟩
        go_wp2_with fail
        refine (adv_ok H4 tt ca).mono ?_
        rintro e w5 ⟨A1, cp1, rfl, h5⟩
        have HSS : Hid (S.Pairwise Wh.before) := Lib.hid H4.out.sorted
        have HSL : Hid (S.length ≤ 4096) := Lib.hid H4.out.len
        have hca := advE_ok' ca
        have h50 : Stt w1 ⟨g, mb, tt, Wh.past tt S⟩ (some ⟨g2, mb2, now, S⟩) [(.slice A1 (Wh.upto tt S).length cp1, Wh.upto tt S)] w5 := h5
        have H5 : Hid (Stt w1 ⟨g2, mb2, now, S⟩ (some ⟨g, mb, tt, Wh.past tt S⟩) [(.slice none 0 0, []), (.slice A1 (Wh.upto tt S).length cp1, Wh.upto tt S)] w5) := Lib.hid h50.swap.nilrow
        have HCA := Lib.hid hca
        clear h5 h50 hca ca H4
        have HP0 : Hid (Part tt S now S []) := Lib.hid ⟨rfl, rfl, HCA.out.1⟩
        go_wp2_with fail
        go_loopg [15, 16, 17, 18] (min ss.length 400) (fun n v15 v16 v17 v18 W => ∃ (k : Nat) (cur : Int) (Sc l : List Itm) (B : Option Addr) (cb : Nat), v16 = .int .i64 k ∧ v15 = .slice B l.length cb ∧ n + k = min ss.length 400 ∧ Hid (Part tt S cur Sc l) ∧ Hid (Stt w1 ⟨g2, mb2, cur, Sc⟩ (some ⟨g, mb, tt, Wh.past tt S⟩) [(.slice B l.length cb, l), (.slice A1 (Wh.upto tt S).length cp1, Wh.upto tt S)] W))
        case atStart => exact ⟨0, now, S, [], none, 0, rfl, rfl, rfl, HP0, H5⟩
        case round =>
          clear HP0 H5 hG HLX HR1
          obtain ⟨k, cur, Sc, l, B, cb, rfl, rfl, hnk, HP, HI⟩ := hrel
          by_cases hk : k < ss.length ∧ k < 400
          · obtain ⟨hk1, hk2⟩ := hk
            have hki : (k : Int) < (ss.length : Int) := by omega
            have hkj : (k : Int) < 400 := by omega
            obtain ⟨n, rfl⟩ : ∃ n, gk = n + 1 := ⟨gk - 1, by omega⟩
            have HN := Lib.hid hnk
            obtain ⟨b, off, hbA, hlt, e0⟩ := HT1.out.num k hk1
            obtain ⟨s, hs⟩ : ∃ s, s = ss.getD k default := ⟨_, rfl⟩
            rw [← hs] at e0
            have E0 := Lib.hid e0
            have HLT := Lib.hid hlt
            have f0 : wr.cell? ⟨b, off + k, none⟩ = some (.int .i64 s) := HI.out.cell hlt e0
            have hwm : IntKind.i64.wrap (k : Int) = (k : Int) := IntWalk.i64_in _ (by have := HLS.out; omega)
            have HAE := Lib.hid hbA
            clear hs e0 hlt hbA hnk
            rw [HAE.out]
            by_cases hst : s ≤ tt
            case neg =>
              go_wp2_with fail
              rw [← HAE.out]
              go_roundg n
              case rel => exact ⟨k + 1, cur, Sc, l, B, cb, by go_num, rfl, by have := HN.out; omega, HP, HI⟩
              case measure => omega
            have HSC := Lib.hid HI.out.sorted
            have HSL2 := Lib.hid HI.out.len
            have HLL := Lib.hid (HP.out.len HSL.out)
            by_cases cs : advE cur s = 0
            · go_wp2_with fail
              refine (adv_ok HI s cs).mono ?_
              rintro e w6 ⟨A2, cp2, rfl, h6⟩
              have h60 : Stt w1 ⟨g2, mb2, s, Wh.past s Sc⟩ (some ⟨g, mb, tt, Wh.past tt S⟩) [(.slice A2 (Wh.upto s Sc).length cp2, Wh.upto s Sc), (.slice B l.length cb, l), (.slice A1 (Wh.upto tt S).length cp1, Wh.upto tt S)] w6 := h6
              have HRD : Hid (RdL layW w6 A2 (Wh.upto s Sc)) := Lib.hid (h60.rd (A := A2) (n := (Wh.upto s Sc).length) (c := cp2) (l := Wh.upto s Sc) (by simp))
              have H6 : Hid (Stt w1 ⟨g2, mb2, s, Wh.past s Sc⟩ (some ⟨g, mb, tt, Wh.past tt S⟩) [(.slice B l.length cb, l), (.slice A1 (Wh.upto tt S).length cp1, Wh.upto tt S)] w6) := Lib.hid (h60.drop (List.sublist_cons_self _ _))
              have HPN := Lib.hid (HP.out.step HSC.out hst)
              have hUL := upto_len s Sc
              have HOL : Hid (OwnL layW 31 w6 w1.heap.size (.slice B l.length cb) l) := Lib.hid (H6.out.own (by simp))
              have hm1 : l.length + (Wh.upto s Sc).length ≤ maxLen := by have := HLL.out; have := HSL2.out; unfold maxLen; omega
              have hm2 : (l.length + (Wh.upto s Sc).length) * 16 ≤ 140737488355328 := by have := HLL.out; have := HSL2.out; omega
              have HSZ := Lib.hid H6.out.below.size
              have HAP := Lib.hid (H6.out.appo (k := Wh.upto s Sc))
              clear h6 h60 hUL f0
              go_wp2_with (at_builtin; refine wpList_appO (L := layW) 22 _ 16 Try.underlying22 infoW rfl rfl (.tmp 103) (.tmp 104) rfl w1.heap.size (.slice B l.length cb) l rfl HOL.out A2 (Wh.upto s Sc).length cp2 (Wh.upto s Sc) rfl rfl HRD.out hm1 hm2 HSZ.out ?_; intro v1 w7 ho3 hg3 h33; obtain ⟨A3, cap3, rfl, hn3⟩ := HAP.out v1 w7 ho3 hg3 h33; have HN3 := Lib.hid hn3; clear ho3 hg3 h33 hn3)
              rw [← HAE.out]
              go_roundg n
              case rel => exact ⟨k + 1, s, Wh.past s Sc, l ++ Wh.upto s Sc, A3, cap3, by go_num, by rw [List.length_append], by have := HN.out; omega, HPN, HN3⟩
              case measure => omega
            · go_wp2_with fail
              refine (adv_no HI s cs).mono ?_
              rintro e w6 ⟨rfl, h6⟩
              have H6 : Hid (Stt w1 ⟨g2, mb2, cur, Sc⟩ (some ⟨g, mb, tt, Wh.past tt S⟩) [(.slice B l.length cb, l), (.slice A1 (Wh.upto tt S).length cp1, Wh.upto tt S)] w6) := Lib.hid h6
              have HOL : Hid (OwnL layW 31 w6 w1.heap.size (.slice B l.length cb) l) := Lib.hid (H6.out.own (by simp))
              have hm1 : l.length + ([] : List Itm).length ≤ maxLen := by have := HLL.out; unfold maxLen; simp; omega
              have hm2 : (l.length + ([] : List Itm).length) * 16 ≤ 140737488355328 := by have := HLL.out; simp; omega
              have HSZ := Lib.hid H6.out.below.size
              have HAP := Lib.hid (H6.out.appo (k := []))
              clear h6 f0
              go_wp2_with (at_builtin; refine wpList_appO (L := layW) 22 _ 16 Try.underlying22 infoW rfl rfl (.tmp 103) (.tmp 104) rfl w1.heap.size (.slice B l.length cb) l rfl HOL.out none 0 0 [] rfl rfl (RdL.nil _ _) hm1 hm2 HSZ.out ?_; intro v1 w7 ho3 hg3 h33; obtain ⟨A3, cap3, rfl, hn3⟩ := HAP.out v1 w7 ho3 hg3 h33; have HN3 := Lib.hid hn3; clear ho3 hg3 h33 hn3)
              rw [← HAE.out]
              go_roundg n
              case rel => exact ⟨k + 1, cur, Sc, l ++ [], A3, cap3, by go_num, by rw [List.append_nil], by have := HN.out; omega, by rw [List.append_nil]; exact HP, HN3⟩
              case measure => omega
          · have HK : Hid (¬ (k < ss.length ∧ k < 400)) := Lib.hid hk
            clear hk hnk
            go_upto_region 17 with (fail)
            go_cut [85] (fun s W => s = .bool false ∧ Hid (Stt w1 ⟨g2, mb2, cur, Sc⟩ (some ⟨g, mb, tt, Wh.past tt S⟩) [(.slice B l.length cb, l), (.slice A1 (Wh.upto tt S).length cp1, Wh.upto tt S)] W))
            case first =>
              by_cases hk1 : k < ss.length
              · have hki : (k : Int) < (ss.length : Int) := by omega
                have hkj : ¬ (k : Int) < 400 := by have := HK.out; omega
                go_wp2_with fail
                go_meet
                exact ⟨rfl, HI⟩
              · have hki : ¬ (k : Int) < (ss.length : Int) := by omega
                go_wp2_with fail
                go_meet
                exact ⟨rfl, HI⟩
            case rest =>
              obtain ⟨rfl, H7⟩ := hcut
              clear HI HK
              have ce : advE cur tt = 0 := advE_ok HP.out.le HCA.out.2
              go_wp2_with fail
              refine (adv_ok H7 tt ce).mono ?_
              rintro e w8 ⟨A2, cp2, rfl, h8⟩
              have h80 : Stt w1 ⟨g2, mb2, tt, Wh.past tt Sc⟩ (some ⟨g, mb, tt, Wh.past tt S⟩) [(.slice A2 (Wh.upto tt Sc).length cp2, Wh.upto tt Sc), (.slice B l.length cb, l), (.slice A1 (Wh.upto tt S).length cp1, Wh.upto tt S)] w8 := h8
              have HRD : Hid (RdL layW w8 A2 (Wh.upto tt Sc)) := Lib.hid (h80.rd (A := A2) (n := (Wh.upto tt Sc).length) (c := cp2) (l := Wh.upto tt Sc) (by simp))
              have H8 : Hid (Stt w1 ⟨g2, mb2, tt, Wh.past tt Sc⟩ (some ⟨g, mb, tt, Wh.past tt S⟩) [(.slice B l.length cb, l), (.slice A1 (Wh.upto tt S).length cp1, Wh.upto tt S)] w8) := Lib.hid (h80.drop (List.sublist_cons_self _ _))
              have hUL := upto_len tt Sc
              have hLL := HP.out.len HSL.out
              have hSL := H7.out.len
              have HOL : Hid (OwnL layW 31 w8 w1.heap.size (.slice B l.length cb) l) := Lib.hid (H8.out.own (by simp))
              have hm1 : l.length + (Wh.upto tt Sc).length ≤ maxLen := by simp only at hSL; unfold maxLen; omega
              have hm2 : (l.length + (Wh.upto tt Sc).length) * 16 ≤ 140737488355328 := by simp only at hSL; omega
              have HSZ := Lib.hid H8.out.below.size
              have hap := H8.out.appo (k := Wh.upto tt Sc)
              rw [HP.out.up, HP.out.pa] at hap
              have HAP := Lib.hid hap
              have HUP := Lib.hid HP.out.up
              clear h8 h80 hUL hLL hSL hap ce H7
              go_wp2_with (at_builtin; refine wpList_appO (L := layW) 22 _ 16 Try.underlying22 infoW rfl rfl (.tmp 112) (.tmp 113) rfl w1.heap.size (.slice B l.length cb) l rfl HOL.out A2 (Wh.upto tt Sc).length cp2 (Wh.upto tt Sc) rfl rfl HRD.out hm1 hm2 HSZ.out ?_; intro v1 w9 ho3 hg3 h33; rw [HUP.out] at ho3; obtain ⟨A3, cap3, rfl, hn3⟩ := HAP.out v1 w9 ho3 hg3 h33; have HN3 := Lib.hid hn3; clear ho3 hg3 h33 hn3)
              have HU4 : Hid ((Wh.upto tt S).length ≤ 1000000) := Lib.hid (by have := upto_len tt S; have := HSL.out; omega)
              have HP4 : Hid ((Wh.past tt S).length ≤ 1000000) := Lib.hid (by have := Wh.split_len tt S; have := HSL.out; omega)
              have y1 : (tt == tt) = true := by simp
              refine (items_calls A1 A3 cp1 cap3 (Wh.upto tt S) w9 (Lib.hid (HN3.out.rd (A := A1) (n := (Wh.upto tt S).length) (c := cp1) (l := Wh.upto tt S) (by simp))) (Lib.hid (HN3.out.rd (A := A3) (n := (Wh.upto tt S).length) (c := cap3) (l := Wh.upto tt S) (by simp))) HU4.out).mono ?_
              rintro e w10 ⟨rfl, hb10⟩
              have H10 := Lib.hid (((HN3.out.bel hb10).drop (List.nil_sublist _)).swap)
              clear hb10 HN3
              go_wp2_with fail
              refine (waiting_st H10).mono ?_
              rintro e w11 ⟨A4, cp4, rfl, h11⟩
              have H11 := Lib.hid h11.swap
              clear h11 H10
              go_wp2_with fail
              refine (waiting_st H11).mono ?_
              rintro e w12 ⟨A5, cp5, rfl, h12⟩
              have h120 : Stt w1 ⟨g2, mb2, tt, Wh.past tt S⟩ (some ⟨g, mb, tt, Wh.past tt S⟩) [(.slice A5 (Wh.past tt S).length cp5, Wh.past tt S), (.slice A4 (Wh.past tt S).length cp4, Wh.past tt S)] w12 := h12
              have H12 := Lib.hid h120
              clear h12 H11 h120
              go_wp2_with fail
              refine (items_calls A4 A5 cp4 cp5 (Wh.past tt S) w12 (Lib.hid (H12.out.rd (A := A4) (n := (Wh.past tt S).length) (c := cp4) (l := Wh.past tt S) (by simp))) (Lib.hid (H12.out.rd (A := A5) (n := (Wh.past tt S).length) (c := cp5) (l := Wh.past tt S) (by simp))) HP4.out).mono ?_
              rintro e w13 ⟨rfl, hb13⟩
              have H13 := Lib.hid ((H12.out.bel hb13).swap)
              clear hb13 H12
              go_wp2_with fail
              refine (now_st H13).mono ?_
              rintro e w14 ⟨rfl, rfl⟩
              have H14 := Lib.hid H13.out.swap
              go_wp2_with fail
              refine (now_st H14).mono ?_
              rintro e w15 ⟨rfl, rfl⟩
              go_wp2_with fail
              go_ret
              exact ⟨rfl, bel_tr HB1.out H13.out.below⟩

set_option maxRecDepth 100000 in
theorem walks {H : Type} (enc : TypeId × Value → H) : Walks enc Try.prog 3 Try.f3 := by
  intro W base args ds ps hval hA hwt
  rw [Try.params3] at hA hval hwt
  obtain ⟨v0, vs0, d0, ds0, p0, q0, hargs, rfl, rfl, h0, r0⟩ := trodAll_cons hA
  obtain ⟨v1, vs1, d1, ds1, p1, q1, rfl, rfl, rfl, h1, r1⟩ := trodAll_cons r0
  obtain ⟨v2, vs2, d2, ds2, p2, q2, rfl, rfl, rfl, h2, r2⟩ := trodAll_cons r1
  obtain ⟨v3, vs3, d3, ds3, p3, q3, rfl, rfl, rfl, h3, r3⟩ := trodAll_cons r2
  obtain ⟨rfl, rfl, rfl⟩ := trodAll_nil r3
  obtain rfl : args = #[v0, v1, v2, v3] := by cases args; simp_all
  obtain ⟨n, rfl, rfl, rfl, _⟩ := open_int Try.underlying2 (hval 0 2 v0 rfl rfl) h0
  obtain ⟨A, xs, cap, rfl, a1, b1, c1, g1⟩ := items_arg (hval 1 22 v1 rfl rfl) h1 (weightsEach_at (i := 1) hwt rfl rfl)
  obtain ⟨t, rfl, rfl, rfl, _⟩ := open_int Try.underlying2 (hval 2 2 v2 rfl rfl) h2
  obtain ⟨T, ss, tc, rfl, a3, b3, c3⟩ := times_arg (hval 3 23 v3 rfl rfl) h3 (weightsEach_at (i := 3) hwt rfl rfl)
  exact walk n t A cap xs T tc ss W (Lib.hid c1) (Lib.hid g1) (Lib.hid c3) (by omega) (by omega)

set_option maxRecDepth 100000 in
theorem lifted (os : Os) (started : os.Started) (H : Type) (enc : TypeId × Value → H) :
    ReturnsInHanded {} Try.checked os 3 .any (Rows.wheelStepsSpec.pre6 enc Try.prog Try.f3 Rows.wheelStepsRow.domain false) (Rows.wheelStepsSpec.post enc Try.prog Try.f3 false true false false) :=
  frame_lifted (C := Try.checked) own started (by kernel_rfl) Try.func3
    (ChangeSpec.witness6 (enc := enc) (C := Try.checked) false ⟨#[], #[.int .i64 0, .slice none 0 0, .int .i64 0, .slice none 0 0], []⟩ 8 (by kernel_rfl) (by kernel_rfl) (by kernel_rfl) (by kernel_rfl)) laidOut (by kernel_rfl) rfl (by rfl) Try.underlying4
    (fun ds h => match ds, h with | [d0, d1, d2, d3], _ => ⟨rfl, rfl, rfl⟩) (walks enc)

theorem over : Rows.wheelStepsRow.holds Try.pinned (OpenSpec.ofChange Rows.wheelStepsSpec) :=
  OpenClaim.holds_of_wide 3 Try.f3 rfl rfl rfl rfl rfl rfl rfl ⟨rfl, rfl, rfl, rfl, rfl⟩ rfl rfl rfl rfl rfl (by kernel_rfl) Try.func3 (by kernel_rfl)
    (of_decide_eq_true (by kernel_rfl)) (by unfold Func.isWrapper; first | (rw [if_pos (by decide +kernel)]; kernel_rfl) | (rw [if_neg (by decide +kernel)]; exact ⟨rfl, rfl⟩))
    (fun os started H enc _ => lifted os started H enc)

/-- the statement -/
theorem proved : Rows.WheelStepsSaid := over
end Go.Proofs.Ytheocdfccdpmbaa.lawWheelSteps
