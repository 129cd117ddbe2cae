/-
  WheelOnce: what is put in comes out just once, in order; what was taken out does not come.
  No condition (its second form: the bulk of what is read is small).
-/
import Derived.Test.YtheocdfccdpmbaaWhV
import Derived.Test.YtheocdfccdpmbaaFrameU
namespace Go.Proofs.Ytheocdfccdpmbaa.lawWheelOnce
open Go.ChangeShapes Go.WideShapes Go.ChangeAt Go.RowKit Go.Deep
set_option linter.unusedVariables false
set_option linter.unusedSimpArgs false
set_option maxHeartbeats 8000000

theorem len_insS {now : Int} {S : List Itm} {x : Itm} : (Wh.insS now S x).length = S.length + (if Wh.insE now S x = 0 then 1 else 0) := by
  unfold Wh.insS
  split
  · rw [Wh.len_ins]
  · rfl
theorem len_delI {id : Int} {S : List Itm} (h : S.Pairwise (fun a b => a.id ≠ b.id)) : (Wh.del id S).length + (if Wh.hasId S id then 1 else 0) = S.length := by
  by_cases c : Wh.hasId S id = true
  · rw [if_pos c]
    obtain ⟨x, hx, hxi⟩ := List.any_eq_true.1 c
    obtain ⟨k, hk, e⟩ := List.mem_iff_getElem.1 hx
    have hxi : x.id = id := by simpa using hxi
    have e2 : S.getD k default = x := by rw [← e]; simp [List.getD, hk]
    have := Wh.del_at h hk
    rw [e2, hxi] at this
    rw [this]
    simp
    omega
  · rw [if_neg c, Wh.del_none (by simpa using c)]
    rfl
set_option maxRecDepth 100000 in
theorem walk (now : Int) (A : Option Addr) (cap : Nat) (xs : List Itm) (D : Option Addr) (dc : Nat) (ds : List Int) (T : Option Addr) (tc : Nat) (ss : List Int) (w : World) (hR : Hid (RdL layW w A xs)) (hG : Hid (∀ i, i < xs.length → B64 (xs.getD i default).id ∧ B64 (xs.getD i default).at_))
    (hD : Hid (RdL (layI .i64) w D ds)) (hE : Hid (∀ i, i < ds.length → B64 (ds.getD i default))) (hT : Hid (RdL (layI .i64) w T ss)) (hlx : xs.length ≤ 20000000000000) (hld : ds.length ≤ 20000000000000) (hls : ss.length ≤ 20000000000000) :
    Calls Try.prog 11 #[.int .i64 now, .slice A xs.length cap, .slice D ds.length dc, .slice T ss.length tc] w fun e w' => e = .returned (.bool true) ∧ Below w.heap.size w w' := by
  have HLX := Lib.hid hlx
  have HLD := Lib.hid hld
  have HLS := Lib.hid hls
  clear hlx hld hls
  go_enter Try.func11, Try.ntmps11
  go_wp2_with fail
  refine (wheel_awake w).mono ?_
  rintro e w1 ⟨rfl, hb1⟩
  have HB1 := Lib.hid hb1
  have HR1 := Lib.hid (hR.out.bel hb1)
  have HD1 := Lib.hid (hD.out.bel hb1)
  have HT1 := Lib.hid (hT.out.bel hb1)
  clear hb1 hR hD hT
  by_cases c : 0 ≤ now ∧ now ≤ 226157759
  case neg =>
    go_wp2_with fail
    refine (new_no now c w1).mono ?_
    rintro e w2 ⟨rfl, rfl⟩
    go_wp2_with fail
    go_ret
    exact ⟨rfl, HB1.out⟩
  go_wp2_with fail
  refine (new_ok now c.1 c.2 w1).mono ?_
  rintro e w2 ⟨g, mb, rfl, h2⟩
  have H2 : Hid (Stt w1 ⟨g, mb, now, []⟩ none [(.slice none 0 0, [])] w2) := Lib.hid (Stt.of_one h2).nilrow
  clear h2 c
  go_wp2_with fail
  go_loopg [11, 12] (min xs.length 400) (fun n v11 v12 W => ∃ (k : Nat) (S I : List Itm) (B : Option Addr) (cb : Nat), v12 = .int .i64 k ∧ v11 = .slice B I.length cb ∧ n + k = min xs.length 400 ∧ Hid (I.length = S.length) ∧ Hid (Stt w1 ⟨g, mb, now, S⟩ none [(.slice B I.length cb, I)] W))
  case atStart => exact ⟨0, [], [], none, 0, rfl, rfl, rfl, Lib.hid rfl, H2⟩
  case round =>
    clear H2
    obtain ⟨k, S, I, B, cb, rfl, rfl, hnk, HIS, HI⟩ := hrel
    have HN := Lib.hid hnk
    by_cases hk : k < xs.length ∧ k < 400
    · obtain ⟨hk1, hk2⟩ := hk
      have hki : (k : Int) < (xs.length : Int) := by omega
      have hkj : (k : Int) < 400 := by omega
      obtain ⟨n, rfl⟩ : ∃ n, gk = n + 1 := ⟨gk - 1, by omega⟩
      obtain ⟨b, off, hbA, hlt, e0, e1⟩ := HR1.out.itm k hk1
      obtain ⟨hg0, -⟩ := hG.out k hk1
      obtain ⟨⟨id, a⟩, hit⟩ : ∃ x, x = xs.getD k default := ⟨_, rfl⟩
      rw [← hit] at e0 e1 hg0
      have E0 : Hid (w1.cell? ⟨b, off + k * 2, none⟩ = some (.int .i64 id)) := Lib.hid e0
      have E1 : Hid (w1.cell? ⟨b, off + k * 2 + 1, none⟩ = some (.int .i64 a)) := Lib.hid e1
      have HLT := Lib.hid hlt
      have hid0 : -9223372036854775808 ≤ id := hg0.1
      have hid1 : id ≤ 9223372036854775807 := hg0.2
      have f0 : wr.cell? ⟨b, off + k * 2, none⟩ = some (.int .i64 id) := HI.out.cell hlt e0
      have f1 : wr.cell? ⟨b, off + k * 2 + 1, none⟩ = some (.int .i64 a) := HI.out.cell hlt e1
      have HAE := Lib.hid hbA
      have HLI := Lib.hid (len_insS (now := now) (S := S) (x := ⟨id, a⟩))
      have HSL := Lib.hid HI.out.len
      clear e0 e1 hg0 hit hlt hbA hnk
      rw [HAE.out]
      go_wp2_with fail
      refine (insert_st HI ⟨id, a⟩ hid0 hid1).mono ?_
      rintro e w3 ⟨rfl, h3⟩
      have H3 := Lib.hid h3
      have f0 : w3.cell? ⟨b, off + k * 2, none⟩ = some (.int .i64 id) := H3.out.cell HLT.out E0.out
      have f1 : w3.cell? ⟨b, off + k * 2 + 1, none⟩ = some (.int .i64 a) := H3.out.cell HLT.out E1.out
      clear h3
      by_cases ci : Wh.insE now S ⟨id, a⟩ = 0
      · have HLI2 : Hid ((Wh.insS now S ⟨id, a⟩).length = S.length + 1) := Lib.hid (by rw [HLI.out, if_pos ci])
        rw [show Wh.insE (⟨g, mb, now, S⟩ : Wd).now (⟨g, mb, now, S⟩ : Wd).S ⟨id, a⟩ = 0 from ci]
        clear ci HLI
        have hbn := bel_new (Below.refl w3.heap.size w3) (.cells #[.int .i64 id, .int .i64 a] 31)
        have H4 := Lib.hid (H3.out.bel hbn)
        have HOL : Hid (OwnL layW 31 (w3.alloc (.cells #[.int .i64 id, .int .i64 a] 31)) w1.heap.size (.slice B I.length cb) I) := Lib.hid (H4.out.own (by simp))
        have HAP := Lib.hid (H4.out.appo (k := [⟨id, a⟩]))
        have HSZ := Lib.hid H4.out.below.size
        have HRL := Lib.hid (rdL_lit (L := layW) w3 31 [⟨id, a⟩] (by simp [maxLen]) #[.int .i64 id, .int .i64 a] rfl)
        have hm1 : I.length + [(⟨id, a⟩ : Itm)].length ≤ maxLen := by have := HIS.out; have := HSL.out; unfold maxLen; simp; omega
        have hm2 : (I.length + [(⟨id, a⟩ : Itm)].length) * 16 ≤ 140737488355328 := by have := HIS.out; have := HSL.out; simp; omega
        clear hbn
        go_wp2_with (at_builtin; refine wpList_appO (L := layW) 22 _ 16 Try.underlying22 infoW rfl rfl (.tmp 55) (.tmp 60) rfl w1.heap.size (.slice B I.length cb) I rfl HOL.out (some ⟨w3.heap.size, 0, none⟩) 1 1 [⟨id, a⟩] rfl rfl HRL.out hm1 hm2 HSZ.out ?_; intro v1 w5 ho3 hg3 h33; obtain ⟨A3, cap3, rfl, hn3⟩ := HAP.out v1 w5 ho3 hg3 h33; have HN3 := Lib.hid hn3; clear ho3 hg3 h33 hn3)
        rw [← HAE.out]
        go_roundg n
        case rel => exact ⟨k + 1, _, I ++ [⟨id, a⟩], A3, cap3, by go_num, by rw [List.length_append]; rfl, by have := HN.out; omega, Lib.hid (by rw [List.length_append, HLI2.out, HIS.out]; rfl), HN3⟩
        case measure => omega
      · have HLI2 : Hid ((Wh.insS now S ⟨id, a⟩).length = S.length) := Lib.hid (by rw [HLI.out, if_neg ci]; rfl)
        obtain ⟨z, hz⟩ : ∃ z, z = Wh.insE now S ⟨id, a⟩ := ⟨_, rfl⟩
        rw [← hz] at ci
        have hzb : (z == 0) = false := by simpa using ci
        rw [show Wh.insE (⟨g, mb, now, S⟩ : Wd).now (⟨g, mb, now, S⟩ : Wd).S ⟨id, a⟩ = z from hz.symm]
        clear ci hz HLI
        go_wp2_with fail
        rw [← HAE.out]
        go_roundg n
        case rel => exact ⟨k + 1, _, I, B, cb, by go_num, rfl, by have := HN.out; omega, Lib.hid (by rw [HLI2.out]; exact HIS.out), H3⟩
        case measure => omega
    · have HK : Hid (¬ (k < xs.length ∧ k < 400)) := Lib.hid hk
      have H3 := Lib.hid (HI.out.drop (List.nil_sublist _))
      have HSI := Lib.hid HIS.out
      clear hk hnk HN
      go_upto_region 8 with (fail)
      go_cut [45] (fun s W => s = .bool false ∧ W = wr)
      case first =>
        by_cases hk1 : k < xs.length
        · have hki : (k : Int) < (xs.length : Int) := by omega
          have hkj : ¬ (k : Int) < 400 := by have := HK.out; omega
          go_wp2_with fail
          go_meet
          exact ⟨rfl, rfl⟩
        · have hki : ¬ (k : Int) < (xs.length : Int) := by omega
          go_wp2_with fail
          go_meet
          exact ⟨rfl, rfl⟩
      case rest =>
        obtain ⟨rfl, rfl⟩ := hcut
        have HIL := Lib.hid HI.out.len
        clear HI HK
        go_wp2_with fail
        go_loopg [13, 14] (min ds.length 400) (fun n v13 v14 W => ∃ (k o : Nat) (S1 : List Itm), v14 = .int .i64 k ∧ v13 = .int .i64 o ∧ n + k = min ds.length 400 ∧ Hid (S1.length + o = S.length) ∧ Hid (Stt w1 ⟨g, mb, now, S1⟩ none [] W))
        case atStart => exact ⟨0, 0, S, rfl, rfl, rfl, Lib.hid rfl, H3⟩
        case round =>
          clear H3
          obtain ⟨k, o, S1, rfl, rfl, hnk, HO, HI⟩ := hrel
          have HN := Lib.hid hnk
          by_cases hk : k < ds.length ∧ k < 400
          · obtain ⟨hk1, hk2⟩ := hk
            have hki : (k : Int) < (ds.length : Int) := by omega
            have hkj : (k : Int) < 400 := by omega
            obtain ⟨n, rfl⟩ : ∃ n, gk = n + 1 := ⟨gk - 1, by omega⟩
            obtain ⟨b, off, hbA, hlt, e0⟩ := HD1.out.num k hk1
            have hg0 := hE.out k hk1
            obtain ⟨s, hs⟩ : ∃ s, s = ds.getD k default := ⟨_, rfl⟩
            rw [← hs] at e0 hg0
            have hid0 : -9223372036854775808 ≤ s := hg0.1
            have hid1 : s ≤ 9223372036854775807 := hg0.2
            have f0 : wr.cell? ⟨b, off + k, none⟩ = some (.int .i64 s) := HI.out.cell hlt e0
            have HAE := Lib.hid hbA
            have HDL := Lib.hid (len_delI (id := s) (S := S1) (by obtain ⟨pv, hw⟩ := HI.out.wh; obtain ⟨pl, D', _, hV, _⟩ := hw.ex; exact hV.ids))
            have ho2 : (o : Int) + 1 ≤ 9223372036854775807 := by have := HO.out; have := HIL.out; omega
            clear hs e0 hg0 hlt hbA hnk
            rw [HAE.out]
            go_wp2_with fail
            refine (cancel_st HI s hid0 hid1).mono ?_
            rintro e w3 ⟨rfl, h3⟩
            have H3 := Lib.hid h3
            clear h3 f0
            by_cases ci : Wh.hasId S1 s = true
            · have HDL2 : Hid ((Wh.del s S1).length + 1 = S1.length) := Lib.hid (by have := HDL.out; rwa [if_pos ci] at this)
              rw [show Wh.hasId (⟨g, mb, now, S1⟩ : Wd).S s = true from ci]
              clear ci HDL
              go_wp2_with fail
              rw [← HAE.out]
              go_roundg n
              case rel => exact ⟨k + 1, o + 1, _, by go_num, by go_num, by have := HN.out; omega, Lib.hid (by have := HO.out; have := HDL2.out; omega), H3⟩
              case measure => omega
            · have HDL2 : Hid ((Wh.del s S1).length = S1.length) := Lib.hid (by have := HDL.out; rwa [if_neg ci] at this)
              rw [show Wh.hasId (⟨g, mb, now, S1⟩ : Wd).S s = false from by simpa using ci]
              clear ci HDL
              go_wp2_with fail
              rw [← HAE.out]
              go_roundg n
              case rel => exact ⟨k + 1, o, _, by go_num, rfl, by have := HN.out; omega, Lib.hid (by rw [HDL2.out]; exact HO.out), H3⟩
              case measure => omega
          · have HK : Hid (¬ (k < ds.length ∧ k < 400)) := Lib.hid hk
            clear hk hnk HN
            go_upto_region 14 with (fail)
            go_cut [69] (fun s W => s = .bool false ∧ Hid (Stt w1 ⟨g, mb, now, S1⟩ none [] W))
            case first =>
              by_cases hk1 : k < ds.length
              · have hki : (k : Int) < (ds.length : Int) := by omega
                have hkj : ¬ (k : Int) < 400 := by have := HK.out; omega
                go_wp2_with fail
                go_meet
                exact ⟨rfl, HI⟩
              · have hki : ¬ (k : Int) < (ds.length : Int) := by omega
                go_wp2_with fail
                go_meet
                exact ⟨rfl, HI⟩
            case rest =>
              obtain ⟨rfl, H5⟩ := hcut
              clear HI HK
              have hsub : (I.length : Int) - (o : Int) = (S1.length : Int) := by have := HSI.out; have := HO.out; omega
              have hwr : IntKind.i64.wrap (S1.length : Int) = (S1.length : Int) := IntWalk.i64_in _ (by have := HO.out; have := HIL.out; omega)
              have y1 : ((S1.length : Int) == (S1.length : Int)) = true := by simp
              go_wp2_with fail
              refine (waiting_st H5).mono ?_
              rintro e w6 ⟨A4, cp4, rfl, h6⟩
              have H6 := Lib.hid (h6.drop (List.nil_sublist _))
              clear h6
              go_upto_region 22 with (fail)
              clear hsub hwr y1 H5
              go_wp2_with fail
              go_loopg [15, 16, 17, 18, 19, 20] (min ss.length 400) (fun n v15 v16 v17 v18 v19 v20 W => ∃ (k se : Nat) (cur : Int) (Sc : List Itm), v17 = .int .i64 k ∧ v15 = .int .i64 cur ∧ v16 = .int .i64 se ∧ n + k = min ss.length 400 ∧ Hid (se + Sc.length = S1.length) ∧ Hid (Stt w1 ⟨g, mb, cur, Sc⟩ none [] W))
              case atStart => exact ⟨0, 0, now, S1, rfl, rfl, rfl, rfl, Lib.hid (by omega), H6⟩
              case round =>
                clear H6
                obtain ⟨k, se, cur, Sc, rfl, rfl, rfl, hnk, HE, HI⟩ := hrel
                have HN := Lib.hid hnk
                by_cases hk : k < ss.length ∧ k < 400
                · obtain ⟨hk1, hk2⟩ := hk
                  have hki : (k : Int) < (ss.length : Int) := by omega
                  have hkj : (k : Int) < 400 := by omega
                  obtain ⟨n, rfl⟩ : ∃ n, gk = n + 1 := ⟨gk - 1, by omega⟩
                  obtain ⟨b, off, hbA, hlt, e0⟩ := HT1.out.num k hk1
                  obtain ⟨s, hs⟩ : ∃ s, s = ss.getD k default := ⟨_, rfl⟩
                  rw [← hs] at e0
                  have E0 := Lib.hid e0
                  have HLT := Lib.hid hlt
                  have f0 : wr.cell? ⟨b, off + k, none⟩ = some (.int .i64 s) := HI.out.cell hlt e0
                  have HAE := Lib.hid hbA
                  clear hs e0 hlt hbA hnk
                  rw [HAE.out]
                  by_cases ca : advE cur s = 0
                  case neg =>
                    have hca : s < cur ∨ 226157759 < s := by
                      unfold advE at ca
                      split at ca
                      · assumption
                      · exact absurd rfl ca
                    go_wp2_with fail
                    refine (adv_no HI s ca).mono ?_
                    rintro e w7 ⟨rfl, h7⟩
                    have H7 := Lib.hid h7
                    have f0 : w7.cell? ⟨b, off + k, none⟩ = some (.int .i64 s) := H7.out.cell HLT.out E0.out
                    clear h7
                    by_cases h1 : s < cur
                    · have h1' : ¬ cur ≤ s := by omega
                      clear hca ca
                      go_wp2_with fail
                      rw [← HAE.out]
                      go_roundg n
                      case rel => exact ⟨k + 1, se, cur, Sc, by go_num, rfl, rfl, by have := HN.out; omega, HE, H7⟩
                      case measure => omega
                    · have h1' : cur ≤ s := by omega
                      have h2' : ¬ s ≤ 226157759 := by omega
                      clear hca ca h1
                      go_wp2_with fail
                      rw [← HAE.out]
                      go_roundg n
                      case rel => exact ⟨k + 1, se, cur, Sc, by go_num, rfl, rfl, by have := HN.out; omega, HE, H7⟩
                      case measure => omega
                  have HCA := Lib.hid (advE_ok' ca)
                  have HSO := Lib.hid HI.out.sorted
                  have HTM : Hid (∀ x ∈ Sc, cur < x.at_) := Lib.hid (fun x hx => by obtain ⟨pv, hw⟩ := HI.out.wh; exact (hw.times x hx).1)
                  go_wp2_with fail
                  refine (adv_ok HI s ca).mono ?_
                  rintro e w7 ⟨A1, cp1, rfl, h7⟩
                  have H7 : Hid (Stt w1 ⟨g, mb, s, Wh.past s Sc⟩ none [(.slice A1 (Wh.upto s Sc).length cp1, Wh.upto s Sc)] w7) := Lib.hid h7
                  have HSP := Lib.hid (Wh.split_len s Sc)
                  have HUS : Hid ((Wh.upto s Sc).Pairwise Wh.before) := Lib.hid (HSO.out.filter _)
                  have HUT : Hid (∀ x ∈ Wh.upto s Sc, cur < x.at_ ∧ x.at_ ≤ s) := Lib.hid (fun x hx => ⟨HTM.out x (List.mem_filter.1 hx).1, by simpa using (List.mem_filter.1 hx).2⟩)
                  have HUL : Hid ((Wh.upto s Sc).length ≤ 4096) := Lib.hid (by have := HSP.out; have := HI.out.len; simp only at this; omega)
                  clear h7 ca HI HTM f0
                  obtain ⟨U, hU⟩ : ∃ U, U = Wh.upto s Sc := ⟨_, rfl⟩
                  rw [← hU] at H7 HSP HUS HUT HUL
                  rw [← hU]
                  clear hU
                  go_wp2_with fail
                  go_loopg [20] U.length (fun n v20 W => ∃ (m : Nat), v20 = .int .i64 m ∧ n + m = U.length ∧ Hid (Stt w1 ⟨g, mb, s, Wh.past s Sc⟩ none [(.slice A1 U.length cp1, U)] W))
                  case atStart => exact ⟨0, rfl, rfl, H7⟩
                  case round =>
                    clear H7
                    obtain ⟨m, rfl, hnm, HJ⟩ := hrel
                    have HM := Lib.hid hnm
                    by_cases hm1 : m < U.length
                    · have hmi : (m : Int) < (U.length : Int) := by omega
                      obtain ⟨n2, rfl⟩ : ∃ n2, gk = n2 + 1 := ⟨gk - 1, by omega⟩
                      have HRU := Lib.hid (HJ.out.rd (A := A1) (n := U.length) (c := cp1) (l := U) (by simp))
                      obtain ⟨ub, uo, hUe, hul, u0, u1⟩ := HRU.out.itm m hm1
                      have hux := HUT.out (U.getD m default) (by have e : U.getD m default = U[m] := by { simp [List.getD, hm1] }; rw [e]; exact List.getElem_mem hm1)
                      have hm2 : (m : Int) + 1 ≤ 9223372036854775807 := by have := HUL.out; omega
                      have f0 : wr.cell? ⟨b, off + k, none⟩ = some (.int .i64 s) := HJ.out.cell HLT.out E0.out
                      have HUE := Lib.hid hUe
                      have HUB := Lib.hid hul
                      have HM1 := Lib.hid hm1
                      by_cases hm0 : m = 0
                      · obtain ⟨⟨xid, xa⟩, hx⟩ : ∃ x, x = U.getD m default := ⟨_, rfl⟩
                        rw [← hx] at u0 u1 hux
                        have d1 : decide (xa ≤ cur) = false := decide_eq_false (by have := hux.1; simp only at this; omega)
                        have d2 : decide (s < xa) = false := decide_eq_false (by have := hux.2; simp only at this; omega)
                        subst hm0
                        clear hx hux hUe hul hnm hm1
                        rw [HUE.out]
                        go_upto_region 32 with (fail)
                        go_quiet (fail)
                        have HJ2 := Lib.hid (HJ.out.bel (bel_drewN (Below.refl _ _) nq))
                        go_wp2_with fail
                        rw [← HUE.out]
                        go_roundg n2
                        case rel => exact ⟨0 + 1, by go_num, by have := HM.out; omega, HJ2⟩
                        case measure => omega
                      · obtain ⟨p, hp⟩ : ∃ p, p = m - 1 := ⟨_, rfl⟩
                        have hpm : p + 1 = m := by omega
                        have hbf := Wh.before_at HUS.out (k := p) (by rw [hpm]; exact hm1)
                        rw [hpm] at hbf
                        obtain ⟨ub2, uo2, hUe2, -, v0, v1⟩ := HRU.out.itm p (by omega)
                        obtain ⟨rfl, rfl⟩ : ub2 = ub ∧ uo2 = uo := by
                          rw [hUe] at hUe2
                          injection hUe2 with h2
                          injection h2 with h3 h4
                          exact ⟨h3.symm, h4.symm⟩
                        obtain ⟨⟨xid, xa⟩, hx⟩ : ∃ x, x = U.getD m default := ⟨_, rfl⟩
                        rw [← hx] at u0 u1 hux hbf
                        obtain ⟨⟨pid, pa⟩, hy⟩ : ∃ x, x = U.getD p default := ⟨_, rfl⟩
                        rw [← hy] at v0 v1 hbf
                        have HBF := Lib.hid hbf
                        have d1 : decide (xa ≤ cur) = false := decide_eq_false (by have := hux.1; simp only at this; omega)
                        have d2 : decide (s < xa) = false := decide_eq_false (by have := hux.2; simp only at this; omega)
                        have d3 : decide ((0 : Int) < (m : Int)) = true := decide_eq_true (by omega)
                        have d3' : (0 : Int) < (m : Int) := by omega
                        have d4 : 0 < m := by omega
                        have d5 : decide (0 < m) = true := decide_eq_true d4
                        have hp1 : (m : Int) - 1 = (p : Int) := by omega
                        have hp2 : IntKind.i64.wrap (p : Int) = (p : Int) := IntWalk.i64_in _ (by have := HUL.out; omega)
                        have hp3 : (p : Int) < (U.length : Int) := by omega
                        have hp4 : IntKind.i64.wrap (m : Int) = (m : Int) := IntWalk.i64_in _ (by have := HUL.out; omega)
                        have U0 := Lib.hid u0
                        have U1 := Lib.hid u1
                        have V0 := Lib.hid v0
                        have V1 := Lib.hid v1
                        have F0 := Lib.hid f0
                        have HLW : Hid (b < wr.heap.size) := Lib.hid (Nat.lt_of_lt_of_le HLT.out HJ.out.below.size)
                        clear hx hy hux hUe hUe2 hul hnm hm1 hbf hp hpm hm0
                        rw [HUE.out]
                        go_upto_region 32 with (fail)
                        go_region_held3 (fun W => W.cell? ⟨ub2, uo2 + m * 2, none⟩ = some (.int .i64 xid) ∧ W.cell? ⟨ub2, uo2 + m * 2 + 1, none⟩ = some (.int .i64 xa) ∧ W.cell? ⟨ub2, uo2 + p * 2, none⟩ = some (.int .i64 pid) ∧ W.cell? ⟨ub2, uo2 + p * 2 + 1, none⟩ = some (.int .i64 pa) ∧ W.cell? ⟨b, off + k, none⟩ = some (.int .i64 s)) (go_keep) (first
                          | (go_at_call 39; refine (before_calls ⟨pid, pa⟩ ⟨xid, xa⟩ _).mono ?_; rintro e w9 ⟨rfl, hb9⟩; rw [decide_eq_true HBF.out]; have HJ2 := Lib.hid ((HJ.out.bel (bel_drew (Below.refl _ _))).bel hb9); have u0 := (hb9.cell (p := ⟨ub2, uo2 + m * 2, none⟩) HUB.out).trans U0.out; have u1 := (hb9.cell (p := ⟨ub2, uo2 + m * 2 + 1, none⟩) HUB.out).trans U1.out; have v0 := (hb9.cell (p := ⟨ub2, uo2 + p * 2, none⟩) HUB.out).trans V0.out; have v1 := (hb9.cell (p := ⟨ub2, uo2 + p * 2 + 1, none⟩) HUB.out).trans V1.out; have f0 := (hb9.cell (p := ⟨b, off + k, none⟩) HLW.out).trans F0.out; clear hb9))
                        all_goals
                          clear hp1 hp2 hp4 d1 d2 d3 d5
                          go_wp2_with fail
                          rw [← HUE.out]
                          go_roundg n2
                          case rel => exact ⟨m + 1, by go_num, by have := HM.out; omega, HJ2⟩
                          case measure => omega
                    · have hmi : ¬ (m : Int) < (U.length : Int) := by omega
                      have hse : (se : Int) + (U.length : Int) ≤ 9223372036854775807 := by have := HUL.out; have := HE.out; have := HSP.out; have := HO.out; have := HIL.out; omega
                      have f0 : wr.cell? ⟨b, off + k, none⟩ = some (.int .i64 s) := HJ.out.cell HLT.out E0.out
                      have HJ2 := Lib.hid (HJ.out.drop (List.nil_sublist _))
                      clear hnm
                      go_wp2_with fail
                      rw [← HAE.out]
                      go_roundg n
                      case rel => exact ⟨k + 1, se + U.length, s, Wh.past s Sc, by go_num, rfl, by go_num, by have := HN.out; omega, Lib.hid (by have := HE.out; have := HSP.out; omega), HJ2⟩
                      case measure => omega
                · have HK : Hid (¬ (k < ss.length ∧ k < 400)) := Lib.hid hk
                  clear hk hnk HN
                  go_upto_region 23 with (fail)
                  go_cut [96] (fun s W => s = .bool false ∧ Hid (Stt w1 ⟨g, mb, cur, Sc⟩ none [] W))
                  case first =>
                    by_cases hk1 : k < ss.length
                    · have hki : (k : Int) < (ss.length : Int) := by omega
                      have hkj : ¬ (k : Int) < 400 := by have := HK.out; omega
                      go_wp2_with fail
                      go_meet
                      exact ⟨rfl, HI⟩
                    · have hki : ¬ (k : Int) < (ss.length : Int) := by omega
                      go_wp2_with fail
                      go_meet
                      exact ⟨rfl, HI⟩
                  case rest =>
                    obtain ⟨rfl, H8⟩ := hcut
                    have HTM : Hid (∀ x ∈ Sc, cur < x.at_) := Lib.hid (fun x hx => by obtain ⟨pv, hw⟩ := H8.out.wh; exact (hw.times x hx).1)
                    have HUS := Lib.hid H8.out.sorted
                    have HUL : Hid (Sc.length ≤ 4096) := Lib.hid H8.out.len
                    clear HI HK
                    go_upto_region 36 with (fail)
                    go_wp2_with fail
                    refine (waiting_st H8).mono ?_
                    rintro e w7 ⟨A1, cp1, rfl, h7⟩
                    have H9 : Hid (Stt w1 ⟨g, mb, cur, Sc⟩ none [(.slice A1 Sc.length cp1, Sc)] w7) := Lib.hid h7
                    clear h7 H8
                    go_wp2_with fail
                    go_loopg [22] Sc.length (fun n v22 W => ∃ (m : Nat), v22 = .int .i64 m ∧ n + m = Sc.length ∧ Hid (Stt w1 ⟨g, mb, cur, Sc⟩ none [(.slice A1 Sc.length cp1, Sc)] W))
                    case atStart => exact ⟨0, rfl, rfl, H9⟩
                    case round =>
                      clear H9
                      obtain ⟨m, rfl, hnm, HJ⟩ := hrel
                      have HM := Lib.hid hnm
                      by_cases hm1 : m < Sc.length
                      · have hmi : (m : Int) < (Sc.length : Int) := by omega
                        obtain ⟨n2, rfl⟩ : ∃ n2, gk = n2 + 1 := ⟨gk - 1, by omega⟩
                        have HRU := Lib.hid (HJ.out.rd (A := A1) (n := Sc.length) (c := cp1) (l := Sc) (by simp))
                        obtain ⟨ub, uo, hUe, hul, u0, u1⟩ := HRU.out.itm m hm1
                        have hux := HTM.out (Sc.getD m default) (by have e : Sc.getD m default = Sc[m] := by { simp [List.getD, hm1] }; rw [e]; exact List.getElem_mem hm1)
                        have hm2 : (m : Int) + 1 ≤ 9223372036854775807 := by have := HUL.out; omega
                        have HUE := Lib.hid hUe
                        have HUB := Lib.hid hul
                        by_cases hm0 : m = 0
                        · obtain ⟨⟨xid, xa⟩, hx⟩ : ∃ x, x = Sc.getD m default := ⟨_, rfl⟩
                          rw [← hx] at u0 u1 hux
                          have d1 : decide (xa ≤ cur) = false := decide_eq_false (by simp only at hux; omega)
                          subst hm0
                          clear hx hux hUe hul hnm hm1
                          rw [HUE.out]
                          go_upto_region 40 with (fail)
                          go_quiet (fail)
                          have HJ2 := Lib.hid (HJ.out.bel (bel_drewN (Below.refl _ _) nq))
                          go_wp2_with fail
                          rw [← HUE.out]
                          go_roundg n2
                          case rel => exact ⟨0 + 1, by go_num, by have := HM.out; omega, HJ2⟩
                          case measure => omega
                        · obtain ⟨p, hp⟩ : ∃ p, p = m - 1 := ⟨_, rfl⟩
                          have hpm : p + 1 = m := by omega
                          have hbf := Wh.before_at HUS.out (k := p) (by rw [hpm]; exact hm1)
                          rw [hpm] at hbf
                          obtain ⟨ub2, uo2, hUe2, -, v0, v1⟩ := HRU.out.itm p (by omega)
                          obtain ⟨rfl, rfl⟩ : ub2 = ub ∧ uo2 = uo := by
                            rw [hUe] at hUe2
                            injection hUe2 with h2
                            injection h2 with h3 h4
                            exact ⟨h3.symm, h4.symm⟩
                          obtain ⟨⟨xid, xa⟩, hx⟩ : ∃ x, x = Sc.getD m default := ⟨_, rfl⟩
                          rw [← hx] at u0 u1 hux hbf
                          obtain ⟨⟨pid, pa⟩, hy⟩ : ∃ x, x = Sc.getD p default := ⟨_, rfl⟩
                          rw [← hy] at v0 v1 hbf
                          have HBF := Lib.hid hbf
                          have d1 : decide (xa ≤ cur) = false := decide_eq_false (by simp only at hux; omega)
                          have d3 : decide ((0 : Int) < (m : Int)) = true := decide_eq_true (by omega)
                          have d3' : (0 : Int) < (m : Int) := by omega
                          have d4 : 0 < m := by omega
                          have d5 : decide (0 < m) = true := decide_eq_true d4
                          have hp1 : (m : Int) - 1 = (p : Int) := by omega
                          have hp2 : IntKind.i64.wrap (p : Int) = (p : Int) := IntWalk.i64_in _ (by have := HUL.out; omega)
                          have hp3 : (p : Int) < (Sc.length : Int) := by omega
                          have hp4 : IntKind.i64.wrap (m : Int) = (m : Int) := IntWalk.i64_in _ (by have := HUL.out; omega)
                          have U0 := Lib.hid u0
                          have U1 := Lib.hid u1
                          have V0 := Lib.hid v0
                          have V1 := Lib.hid v1
                          clear hx hy hux hUe hUe2 hul hnm hm1 hbf hp hpm hm0
                          rw [HUE.out]
                          go_upto_region 40 with (fail)
                          go_region_held3 (fun W => W.cell? ⟨ub2, uo2 + m * 2, none⟩ = some (.int .i64 xid) ∧ W.cell? ⟨ub2, uo2 + m * 2 + 1, none⟩ = some (.int .i64 xa) ∧ W.cell? ⟨ub2, uo2 + p * 2, none⟩ = some (.int .i64 pid) ∧ W.cell? ⟨ub2, uo2 + p * 2 + 1, none⟩ = some (.int .i64 pa)) (go_keep) (first
                            | (go_at_call 39; refine (before_calls ⟨pid, pa⟩ ⟨xid, xa⟩ _).mono ?_; rintro e w9 ⟨rfl, hb9⟩; rw [decide_eq_true HBF.out]; have HJ2 := Lib.hid ((HJ.out.bel (bel_drew (Below.refl _ _))).bel hb9); have u0 := (hb9.cell (p := ⟨ub2, uo2 + m * 2, none⟩) HUB.out).trans U0.out; have u1 := (hb9.cell (p := ⟨ub2, uo2 + m * 2 + 1, none⟩) HUB.out).trans U1.out; have v0 := (hb9.cell (p := ⟨ub2, uo2 + p * 2, none⟩) HUB.out).trans V0.out; have v1 := (hb9.cell (p := ⟨ub2, uo2 + p * 2 + 1, none⟩) HUB.out).trans V1.out; clear hb9))
                          all_goals
                            clear hp1 hp2 hp4 d1 d3 d5
                            go_wp2_with fail
                            rw [← HUE.out]
                            go_roundg n2
                            case rel => exact ⟨m + 1, by go_num, by have := HM.out; omega, HJ2⟩
                            case measure => omega
                      · have hmi : ¬ (m : Int) < (Sc.length : Int) := by omega
                        have hsub : (I.length : Int) - (o : Int) = (S1.length : Int) := by have := HSI.out; have := HO.out; omega
                        have hsum : (se : Int) + (Sc.length : Int) = (S1.length : Int) := by have := HE.out; omega
                        have hwr : IntKind.i64.wrap (S1.length : Int) = (S1.length : Int) := IntWalk.i64_in _ (by have := HO.out; have := HIL.out; omega)
                        have y1 : ((S1.length : Int) == (S1.length : Int)) = true := by simp
                        clear hnm hm1
                        go_wp2_with fail
                        go_ret
                        exact ⟨rfl, bel_tr HB1.out HJ.out.below⟩

set_option maxRecDepth 100000 in
theorem walks {H : Type} (enc : TypeId × Value → H) : WalksU enc Try.prog 11 Try.f11 := by
  intro W base args ds ps hval hA hwt hbulk
  rw [Try.params11] at hA hval hwt
  obtain ⟨v0, vs0, d0, ds0, p0, q0, hargs, rfl, rfl, h0, r0⟩ := trodAll_cons hA
  obtain ⟨v1, vs1, d1, ds1, p1, q1, rfl, rfl, rfl, h1, r1⟩ := trodAll_cons r0
  obtain ⟨v2, vs2, d2, ds2, p2, q2, rfl, rfl, rfl, h2, r2⟩ := trodAll_cons r1
  obtain ⟨v3, vs3, d3, ds3, p3, q3, rfl, rfl, rfl, h3, r3⟩ := trodAll_cons r2
  obtain ⟨rfl, rfl, rfl⟩ := trodAll_nil r3
  obtain rfl : args = #[v0, v1, v2, v3] := by cases args; simp_all
  obtain ⟨n, rfl, rfl, rfl, _⟩ := open_int Try.underlying2 (hval 0 2 v0 rfl rfl) h0
  obtain ⟨A, xs, cap, rfl, a1, b1, c1, g1⟩ := items_arg (hval 1 22 v1 rfl rfl) h1 (weightsEach_at (i := 1) hwt rfl rfl)
  obtain ⟨D, ks, dc, rfl, a2, b2, c2, g2⟩ := nums_arg (hval 2 69 v2 rfl rfl) h2 (weightsEach_at (i := 2) hwt rfl rfl)
  obtain ⟨T, ss, tc, rfl, a3, b3, c3⟩ := times_arg (hval 3 23 v3 rfl rfl) h3 (weightsEach_at (i := 3) hwt rfl rfl)
  exact walk n A cap xs D dc ks T tc ss W (Lib.hid c1) (Lib.hid g1) (Lib.hid c2) (Lib.hid g2) (Lib.hid c3) (by omega) (by omega) (by omega)

set_option maxRecDepth 100000 in
theorem lifted (os : Os) (started : os.Started) (H : Type) (enc : TypeId × Value → H) (F : Stop.Interp) :
    ReturnsInHanded {} Try.checked os 11 .any ((Rows.OpenSpec.upto Rows.wheelOnceSpec).pre6 enc Try.prog Try.f11 Rows.wheelOnceUptoRow.domain false) (((Rows.OpenSpec.upto Rows.wheelOnceSpec).at F).post enc Try.prog Try.f11 false true false false) :=
  frame_liftedU (C := Try.checked) own started (by kernel_rfl) Try.func11
    (OpenSpec.witness (enc := enc) (C := Try.checked) (s := Rows.OpenSpec.upto Rows.wheelOnceSpec) (k := Rows.uptoSmall) rfl false ⟨#[], #[.int .i64 0, .slice none 0 0, .slice none 0 0, .slice none 0 0], []⟩ 8 (by kernel_rfl) (by kernel_rfl) (by kernel_rfl)
      (x := ([.lit (.int .i64 0), .nil, .nil, .nil], [], [])) (by kernel_rfl) rfl (by kernel_rfl)) laidOut (by kernel_rfl) rfl (by rfl) Try.underlying4
    (fun ds h => match ds, h with | [d0, d1, d2, d3], _ => ⟨rfl, rfl, rfl⟩) (walks enc)

theorem over : Rows.wheelOnceUptoRow.holds Try.pinned (Rows.OpenSpec.upto Rows.wheelOnceSpec) :=
  OpenClaim.holds_of_cond 11 Try.f11 rfl rfl rfl rfl rfl rfl rfl ⟨rfl, rfl, rfl, rfl, rfl⟩ rfl rfl rfl rfl rfl (by kernel_rfl) Try.func11 (by kernel_rfl)
    (of_decide_eq_true (by kernel_rfl)) (by unfold Func.isWrapper; first | (rw [if_pos (by decide +kernel)]; kernel_rfl) | (rw [if_neg (by decide +kernel)]; exact ⟨rfl, rfl⟩))
    (fun os started H enc _ F => lifted os started H enc F)

/-- the statement -/
theorem proved : Rows.WheelOnceUptoSaid := over
end Go.Proofs.Ytheocdfccdpmbaa.lawWheelOnce
