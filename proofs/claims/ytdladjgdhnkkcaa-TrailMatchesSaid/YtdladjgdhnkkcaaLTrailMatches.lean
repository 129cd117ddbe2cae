/-
  The statement TrailMatches: what was put stands there, what is fixed stays, the same once more changes nothing.
  No condition.
-/
import Derived.Test.YtdladjgdhnkkcaaTrW
import Derived.Test.YtdladjgdhnkkcaaTrB
namespace Go.Proofs.Ytdladjgdhnkkcaa.lawTrailMatches
open Go.ChangeShapes Go.WideShapes Go.ChangeAt Go.RowKit
set_option linter.unusedVariables false
set_option linter.unusedSimpArgs false

theorem bel_rd {W : World} {A : Option Addr} {es : List En} (h : RdE W A es) : RdE W.drew A es := h.bel ((Below.refl _ _).drew)
theorem rd_at {W : World} {A : Option Addr} {es : List En} (h : RdE W A es) (k : Nat) (hk : k < es.length) {b off : Nat} (hA : A = some ⟨b, off, none⟩) :
    W.cell? ⟨b, off + k * 2, none⟩ = some (.int .i64 (es.getD k default).1) ∧ W.cell? ⟨b, off + k * 2 + 1, none⟩ = some (.string (es.getD k default).2) := by
  obtain ⟨b', off', e, _, h1, h2⟩ := h k hk
  rw [hA] at e
  injection e with e
  injection e with e1 e2 _
  subst e1; subst e2
  exact ⟨h1, h2⟩
theorem put_rng {b bt prev of fixed : Int} {es l out : List En} (h : Tr.put b bt es prev of l fixed = some out) : 0 ≤ prev ∧ prev ≤ 1099511631872 ∧ 0 ≤ b ∧ b ≤ 1099511627776 ∧ es.length ≤ 4096 := by
  obtain ⟨h1, h2, _, _, h⟩ := (Tr.put_iff _ _ _ _ _ _ _ _).1 h
  have hr := Tr.chk_rim h1
  refine ⟨h2, ?_, hr.1, hr.2.1, hr.2.2.2.2.2.1⟩
  rcases h with ⟨h, _⟩ | ⟨h, _⟩ | ⟨h, hp⟩
  · omega
  · omega
  · have := hp.le
    omega

set_option maxRecDepth 20000 in
set_option maxHeartbeats 8000000 in
theorem walk (b bt prev of fixed : Int) (A : Option Addr) (cap : Nat) (es : List En) (B : Option Addr) (cap' : Nat) (l : List En) (w : World) (hR : RdE w A es) (hM : RdE w B l) (hlen : es.length ≤ 2 ^ 47) (hcap : es.length ≤ cap) (hll : l.length ≤ 6000000000000) (hcap' : l.length ≤ cap') (hpr : prev ≤ 9223372036854775807) :
    Calls Try.prog 3 #[trV b bt A es.length cap, .int .i64 prev, .int .i64 of, .slice B l.length cap', .int .i64 fixed] w fun e w' => e = .returned (.bool true) ∧ Below w.heap.size w w' := by
  obtain ⟨o, ho⟩ : ∃ o, o = Tr.put b bt es prev of l fixed := ⟨_, rfl⟩
  have hput := Lib.hid (fun W hb => put_calls b bt prev of fixed A cap es B cap' l W (hR.bel hb) (hM.bel hb) hlen hcap hll hcap' hpr)
  rw [← ho] at hput
  have hS := Lib.hid ((SW.nil w).new 24 #[.int .i64 b, .int .i64 bt, .slice A es.length cap] w.heap.size rfl)
  have HR := Lib.hid hR
  have HM := Lib.hid hM
  have HO := Lib.hid ho
  clear hR hM ho
  go_enter Try.func3, Try.ntmps3
  go_wp2_with fail
  refine (trail_awake _).mono ?_
  rintro e w0 ⟨rfl, hb0⟩
  have hs0 := Lib.hid (hS.out.bel hb0)
  have c0 := (hs0.out.at_ 0 rfl).cells
  clear hb0 hS
  go_wp2_with fail
  refine (hput.out _ hs0.out.1).mono ?_
  rintro e w1 ⟨⟨v, rfl, hv⟩, hb1⟩
  have hs1 := Lib.hid (hs0.out.bel hb1)
  have c1 := (hs1.out.at_ 0 rfl).cells
  clear hb1 hs0 c0 hput
  rcases o with _ | out
  · obtain rfl := hv
    go_wp2_with fail
    go_ret
    exact ⟨rfl, bel_new hs1.out.1 _⟩
  · obtain ⟨A2, cap2, rfl, q1, q2, q3⟩ := hv
    have hrg := put_rng HO.out.symm
    have hchk := Tr.put_chk HO.out.symm
    obtain ⟨r1, r2, r3, r4, r5⟩ := hrg
    have hol : out.length ≤ 4096 := (Tr.chk_rim hchk).2.2.2.2.2.1
    have hcka := Lib.hid (fun (W : World) (hr : RdE W A2 out) => check_calls b bt A2 cap2 out W hr (by omega))
    rw [hchk] at hcka
    have hs2 := Lib.hid (show SW w [(w.heap.size, 24, #[.int .i64 b, .int .i64 bt, .slice A es.length cap]), (w1.heap.size, 24, #[.int .i64 b, .int .i64 bt, .slice A2 out.length cap2])] _ from hs1.out.new 24 #[.int .i64 b, .int .i64 bt, .slice A2 out.length cap2] w1.heap.size rfl)
    have hr2 := Lib.hid (q2.bel (bel_new (Below.refl _ _) (.cells #[.int .i64 b, .int .i64 bt, .slice A2 out.length cap2] 24)))
    have hgw : w.heap.size ≤ w1.heap.size := hs1.out.1.size
    clear hchk q2 q3
    go_wp2_with fail
    generalize w1.alloc (.cells #[.int .i64 b, .int .i64 bt, .slice A2 out.length cap2] 24) = w2 at *
    generalize w1.heap.size = ga at *
    refine (hcka.out _ hr2.out).mono ?_
    rintro e w3 ⟨rfl, hb3⟩
    have hs3 := Lib.hid (hs2.out.bel hb3)
    have hr3 := Lib.hid (hr2.out.bel hb3)
    have c3 := (hs3.out.at_ 0 rfl).cells
    have d3 := (hs3.out.at_ 1 rfl).cells
    clear hb3 hs2 hr2 c1 hs1 hcka
    go_wp2_with fail
    go_loopg [13, 14, 15, 16] l.length (fun g v13 v14 v15 v16 W => Hid (SW w [(w.heap.size, 24, #[.int .i64 b, .int .i64 bt, .slice A es.length cap]), (ga, 24, #[.int .i64 b, .int .i64 bt, .slice A2 out.length cap2])] W ∧ RdE W A2 out) ∧ ∃ i : Nat, v13 = .int .i64 i ∧ Hid (i + g = l.length))
    case atStart => exact ⟨Lib.hid ⟨hs3.out, hr3.out⟩, 0, rfl, Lib.hid (by omega)⟩
    case round =>
      obtain ⟨hW, i, rfl, HI⟩ := hrel
      have hs4 := Lib.hid hW.out.1
      have hr4 := Lib.hid hW.out.2
      clear hW
      have c4 := (hs4.out.at_ 0 rfl).cells
      have d4 := (hs4.out.at_ 1 rfl).cells
      by_cases hlt : i < l.length
      · have hg : 0 < gk := by have := HI.out; omega
        have hli : (i : Int) < (l.length : Int) := by omega
        have n0 : -9223372036854775808 ≤ prev + 1 + (i : Int) := by omega
        have n1 : prev + 1 + (i : Int) ≤ 9223372036854775807 := by omega
        have n2 : prev + 1 ≤ 9223372036854775807 := by omega
        have ht := Lib.hid (term2_calls b bt (prev + 1 + i) A2 cap2 out wr hr4.out (by omega))
        obtain ⟨bl, off, rfl, hbl, hcl, _⟩ := HM.out i hlt
        by_cases hb : prev + 1 + (i : Int) < b
        · generalize (if Tr.has b bt out (prev + 1 + (i : Int)) = true then Tr.trm b bt out (prev + 1 + (i : Int)) else 0) = x at *
          generalize Tr.has b bt out (prev + 1 + (i : Int)) = h at *
          clear hcl
          go_wp2_with fail
          refine ht.out.mono ?_
          rintro e w5 ⟨rfl, hb5⟩
          have hs5 := Lib.hid (hs4.out.bel hb5)
          have hr5 := Lib.hid (hr4.out.bel hb5)
          have c5 := (hs5.out.at_ 0 rfl).cells
          have d5 := (hs5.out.at_ 1 rfl).cells
          clear hb5 hs4 hr4 c4 d4 ht
          go_wp2_with fail
          go_roundg (gk - 1)
          case rel => exact ⟨Lib.hid ⟨hs5.out, hr5.out⟩, i + 1, by go_num, Lib.hid (by have := HI.out; omega)⟩
          case measure => omega
        · have hbp : b - prev ≤ (l.length : Int) := by omega
          obtain ⟨e1, e2⟩ := Tr.put_stands HO.out.symm i hlt (by omega) hbp
          rw [e1] at ht
          simp only [if_true] at ht
          rw [e2] at ht
          clear e1 e2
          generalize (l.getD i default).1 = x at *
          have hxx : (x != x) = false := by simp
          have n4 : b - prev ≤ 9223372036854775807 := by omega
          have n5 : -9223372036854775808 ≤ b - prev := by omega
          go_wp2_with fail
          refine ht.out.mono ?_
          rintro e w5 ⟨rfl, hb5⟩
          have hs5 := Lib.hid (hs4.out.bel hb5)
          have hr5 := Lib.hid (hr4.out.bel hb5)
          have c5 := (hs5.out.at_ 0 rfl).cells
          have d5 := (hs5.out.at_ 1 rfl).cells
          clear hb5 hs4 hr4 c4 d4 ht
          have hcw := (hs5.out.1.cell (p := ⟨bl, off + i * 2, none⟩) hbl).trans hcl
          go_wp2_with fail
          go_roundg (gk - 1)
          case rel => exact ⟨Lib.hid ⟨hs5.out, hr5.out⟩, i + 1, by go_num, Lib.hid (by have := HI.out; omega)⟩
          case measure => omega
      · have hli : ¬ (i : Int) < (l.length : Int) := by omega
        clear hlt HI
        generalize gk = gk1 at *
        go_wp2_with fail
        go_loopg [17, 18] es.length (fun g v17 v18 W => Hid (SW w [(w.heap.size, 24, #[.int .i64 b, .int .i64 bt, .slice A es.length cap]), (ga, 24, #[.int .i64 b, .int .i64 bt, .slice A2 out.length cap2])] W ∧ RdE W A2 out) ∧ ∃ k : Nat, v17 = .int .i64 k ∧ Hid (k + g = es.length))
        case atStart => exact ⟨Lib.hid ⟨hs4.out, hr4.out⟩, 0, rfl, Lib.hid (by omega)⟩
        case round =>
          obtain ⟨hW, k, rfl, HK⟩ := hrel
          have hs6 := Lib.hid hW.out.1
          have hr6 := Lib.hid hW.out.2
          clear hW c4 d4 hs4 hr4
          have c6 := (hs6.out.at_ 0 rfl).cells
          have d6 := (hs6.out.at_ 1 rfl).cells
          by_cases hk : k < es.length ∧ k < out.length
          · obtain ⟨hk1, hk2⟩ := hk
            have g1 : (k : Int) < (es.length : Int) := by omega
            have g2 : (k : Int) < (out.length : Int) := by omega
            have hg : 0 < gk := by have := HK.out; omega
            have n0 : b + 1 + (k : Int) ≤ 9223372036854775807 := by omega
            have n2 : b + 1 ≤ 9223372036854775807 := by omega
            obtain ⟨b1, o1, hA2, hl1, x1, y1⟩ := hr6.out k hk2
            obtain ⟨b2, o2, hA, hl2, x2, y2⟩ := HR.out k hk1
            have hq := fun hc => Tr.put_keeps HO.out.symm k hk1 hc
            have SX : (fun W => SW w [(w.heap.size, 24, #[.int .i64 b, .int .i64 bt, .slice A es.length cap]), (ga, 24, #[.int .i64 b, .int .i64 bt, .slice A2 out.length cap2])] W ∧ RdE W A2 out) wr.drew := ⟨hs6.out.drew, bel_rd hr6.out⟩
            have hne : Nonempty (InS (fun W => SW w [(w.heap.size, 24, #[.int .i64 b, .int .i64 bt, .slice A es.length cap]), (ga, 24, #[.int .i64 b, .int .i64 bt, .slice A2 out.length cap2])] W ∧ RdE W A2 out)) := ⟨⟨_, SX⟩⟩
            have k0 : ∀ (x : InS (fun W => SW w [(w.heap.size, 24, #[.int .i64 b, .int .i64 bt, .slice A es.length cap]), (ga, 24, #[.int .i64 b, .int .i64 bt, .slice A2 out.length cap2])] W ∧ RdE W A2 out)) i, x.val.cell? ⟨w.heap.size, i, none⟩ = (#[.int .i64 b, .int .i64 bt, .slice A es.length cap] : Array Value)[i]? := fun x => (x.ok.1.at_ 0 rfl).cells
            have ka : ∀ (x : InS (fun W => SW w [(w.heap.size, 24, #[.int .i64 b, .int .i64 bt, .slice A es.length cap]), (ga, 24, #[.int .i64 b, .int .i64 bt, .slice A2 out.length cap2])] W ∧ RdE W A2 out)) i, x.val.cell? ⟨ga, i, none⟩ = (#[.int .i64 b, .int .i64 bt, .slice A2 out.length cap2] : Array Value)[i]? := fun x => (x.ok.1.at_ 1 rfl).cells
            by_cases hc : b + 1 + (k : Int) ≤ prev ∨ b + 1 + (k : Int) ≤ fixed
            · have he := hq hc
              have k1 : ∀ (x : InS (fun W => SW w [(w.heap.size, 24, #[.int .i64 b, .int .i64 bt, .slice A es.length cap]), (ga, 24, #[.int .i64 b, .int .i64 bt, .slice A2 out.length cap2])] W ∧ RdE W A2 out)), x.val.cell? ⟨b1, o1 + k * 2, none⟩ = some (.int .i64 (out.getD k default).1) ∧ x.val.cell? ⟨b1, o1 + k * 2 + 1, none⟩ = some (.string (out.getD k default).2) := fun x => rd_at x.ok.2 k hk2 hA2
              have k2 : ∀ (x : InS (fun W => SW w [(w.heap.size, 24, #[.int .i64 b, .int .i64 bt, .slice A es.length cap]), (ga, 24, #[.int .i64 b, .int .i64 bt, .slice A2 out.length cap2])] W ∧ RdE W A2 out)), x.val.cell? ⟨b2, o2 + k * 2, none⟩ = some (.int .i64 (es.getD k default).1) ∧ x.val.cell? ⟨b2, o2 + k * 2 + 1, none⟩ = some (.string (es.getD k default).2) := fun x => ⟨(x.ok.1.1.cell (p := ⟨b2, o2 + k * 2, none⟩) hl2).trans x2, (x.ok.1.1.cell (p := ⟨b2, o2 + k * 2 + 1, none⟩) hl2).trans y2⟩
              rw [he] at k1
              generalize es.getD k default = c at *
              obtain ⟨cx, cs⟩ := c
              have k3 := fun x => (k1 x).1
              have k4 := fun x => (k1 x).2
              have k5 := fun x => (k2 x).1
              have k6 := fun x => (k2 x).2
              simp only at k3 k4 k5 k6
              clear x1 x2 y1 y2 k1 k2 hq he
              subst hA2
              subst hA
              by_cases hp1 : b + 1 + (k : Int) ≤ prev
              all_goals
                first | (have hp3 : decide (b + 1 + (k : Int) ≤ prev) = false := dec_f hp1) | skip
                have hp2' : b + 1 + (k : Int) ≤ prev ∨ b + 1 + (k : Int) ≤ fixed := hc
                first | (have hp2 : b + 1 + (k : Int) ≤ fixed := by omega) | skip
                clear hp2'
                clear hc
                go_wp2_with fail
                refine wp_region_in (fun W => SW w [(w.heap.size, 24, #[.int .i64 b, .int .i64 bt, .slice (some ⟨b2, o2, none⟩) es.length cap]), (ga, 24, #[.int .i64 b, .int .i64 bt, .slice (some ⟨b1, o1, none⟩) out.length cap2])] W ∧ RdE W (some ⟨b1, o1, none⟩) out) (by kernel_rfl) (by kernel_rfl) SX ?_
                repeat (go_big_quiet_step (fail))
                first | refine wpQuiet_nil ?_ | go_big_quiet_step (fail)
                intro W hW
                have hs := Lib.hid (in_ok hW)
                clear hW k0 ka k3 k4 k5 k6 SX hne
                go_wp2_with fail
                go_roundg (gk - 1)
                case rel => exact ⟨hs, k + 1, by go_num, Lib.hid (by have := HK.out; omega)⟩
                case measure => omega
            · have hp1 : ¬ b + 1 + (k : Int) ≤ prev := by omega
              have hp2 : ¬ b + 1 + (k : Int) ≤ fixed := by omega
              have hp3 : decide (b + 1 + (k : Int) ≤ prev) = false := dec_f hp1
              have hp4 : decide (b + 1 + (k : Int) ≤ fixed) = false := dec_f hp2
              clear x1 x2 y1 y2 hq hc
              subst hA2
              subst hA
              go_wp2_with fail
              refine wp_region_in (fun W => SW w [(w.heap.size, 24, #[.int .i64 b, .int .i64 bt, .slice (some ⟨b2, o2, none⟩) es.length cap]), (ga, 24, #[.int .i64 b, .int .i64 bt, .slice (some ⟨b1, o1, none⟩) out.length cap2])] W ∧ RdE W (some ⟨b1, o1, none⟩) out) (by kernel_rfl) (by kernel_rfl) SX ?_
              repeat (go_big_quiet_step (fail))
              first | refine wpQuiet_nil ?_ | go_big_quiet_step (fail)
              intro W hW
              have hs := Lib.hid (in_ok hW)
              clear hW k0 ka SX hne hp3 hp4
              go_wp2_with fail
              go_roundg (gk - 1)
              case rel => exact ⟨hs, k + 1, by go_num, Lib.hid (by have := HK.out; omega)⟩
              case measure => omega
          · have hput2 := Lib.hid (fun (W : World) hb hr => put_calls b bt prev of fixed A2 cap2 out B cap' l W hr (HM.out.bel hb) (by omega) q1 hll hcap' hpr)
            rw [Tr.put_again HO.out.symm] at hput2
            by_cases hk1 : k < es.length
            · have hk2 : ¬ k < out.length := by omega
              have g1 : (k : Int) < (es.length : Int) := by omega
              have g2 : ¬ (k : Int) < (out.length : Int) := by omega
              clear hk
              go_wp2_with fail
              refine (hput2.out _ hs6.out.1 hr6.out).mono ?_
              rintro e w7 ⟨⟨v, rfl, A7, cap7, rfl, z1, z2, z3⟩, hb7⟩
              have hs7 := Lib.hid (hs6.out.bel hb7)
              have hr7 := Lib.hid (hr6.out.bel hb7)
              have c7 := (hs7.out.at_ 0 rfl).cells
              have d7 := (hs7.out.at_ 1 rfl).cells
              have hgl := (hs7.out.at_ 1 rfl).lt
              have gne : ga ≠ w7.heap.size := by omega
              have hs8 := Lib.hid (hs7.out.new 24 #[.int .i64 b, .int .i64 bt, .slice A7 out.length cap7] w7.heap.size rfl)
              have hsm := Lib.hid (same_calls b bt b bt A2 A7 cap2 cap7 out out (w7.alloc (.cells #[.int .i64 b, .int .i64 bt, .slice A7 out.length cap7] 24)) (hr7.out.bel (bel_new (Below.refl _ _) _)) (z2.bel (bel_new (Below.refl _ _) _)) (by omega) (by omega))
              rw [dec_t ⟨rfl, rfl, rfl⟩] at hsm
              clear hb7 hs6 hr6 c6 d6 hput2 z1 z2 z3
              go_wp2_with fail
              refine hsm.out.mono ?_
              rintro e w9 ⟨rfl, hb9⟩
              have hs9 := (hs8.out.bel hb9).1
              clear hb9
              go_wp2_with fail
              go_ret
              exact ⟨rfl, hs9⟩
            · have g1 : ¬ (k : Int) < (es.length : Int) := by omega
              clear hk
              go_wp2_with fail
              refine (hput2.out _ hs6.out.1 hr6.out).mono ?_
              rintro e w7 ⟨⟨v, rfl, A7, cap7, rfl, z1, z2, z3⟩, hb7⟩
              have hs7 := Lib.hid (hs6.out.bel hb7)
              have hr7 := Lib.hid (hr6.out.bel hb7)
              have c7 := (hs7.out.at_ 0 rfl).cells
              have d7 := (hs7.out.at_ 1 rfl).cells
              have hgl := (hs7.out.at_ 1 rfl).lt
              have gne : ga ≠ w7.heap.size := by omega
              have hs8 := Lib.hid (hs7.out.new 24 #[.int .i64 b, .int .i64 bt, .slice A7 out.length cap7] w7.heap.size rfl)
              have hsm := Lib.hid (same_calls b bt b bt A2 A7 cap2 cap7 out out (w7.alloc (.cells #[.int .i64 b, .int .i64 bt, .slice A7 out.length cap7] 24)) (hr7.out.bel (bel_new (Below.refl _ _) _)) (z2.bel (bel_new (Below.refl _ _) _)) (by omega) (by omega))
              rw [dec_t ⟨rfl, rfl, rfl⟩] at hsm
              clear hb7 hs6 hr6 c6 d6 hput2 z1 z2 z3
              go_wp2_with fail
              refine hsm.out.mono ?_
              rintro e w9 ⟨rfl, hb9⟩
              have hs9 := (hs8.out.bel hb9).1
              clear hb9
              go_wp2_with fail
              go_ret
              exact ⟨rfl, hs9⟩

set_option maxRecDepth 100000 in
theorem walks {H : Type} (enc : TypeId × Value → H) : Walks enc Try.prog 3 Try.f3 := by
  intro W base args ds ps hval hA hwt
  rw [Try.params3] at hA hval hwt
  obtain ⟨v0, vs0, d0, ds0, p0, q0, hargs, rfl, rfl, h0, r0⟩ := trodAll_cons hA
  obtain ⟨v1, vs1, d1, ds1, p1, q1, rfl, rfl, rfl, h1, r1⟩ := trodAll_cons r0
  obtain ⟨v2, vs2, d2, ds2, p2, q2, rfl, rfl, rfl, h2, r2⟩ := trodAll_cons r1
  obtain ⟨v3, vs3, d3, ds3, p3, q3, rfl, rfl, rfl, h3, r3⟩ := trodAll_cons r2
  obtain ⟨v4, vs4, d4, ds4, p4, q4, rfl, rfl, rfl, h4, r4⟩ := trodAll_cons r3
  obtain ⟨rfl, rfl, rfl⟩ := trodAll_nil r4
  obtain rfl : args = #[v0, v1, v2, v3, v4] := by cases args; simp_all
  obtain ⟨b, bt, A, es, cap, rfl, _, _, c1, c2, hR⟩ := trail_arg (hval 0 24 v0 rfl rfl) h0 (weightsEach_at (i := 0) hwt rfl rfl)
  obtain ⟨prev, rfl, rfl, rfl, hp⟩ := open_int Try.underlying2 (hval 1 2 v1 rfl rfl) h1
  obtain ⟨of, rfl, rfl, rfl, _⟩ := open_int Try.underlying2 (hval 2 2 v2 rfl rfl) h2
  obtain ⟨B, l, cap', rfl, c1', c2', hM⟩ := entries_arg2 (hval 3 22 v3 rfl rfl) h3 (weightsEach_at (i := 3) hwt rfl rfl)
  obtain ⟨fixed, rfl, rfl, rfl, _⟩ := open_int Try.underlying2 (hval 4 2 v4 rfl rfl) h4
  exact walk b bt prev of fixed A cap es B cap' l W hR hM (by omega) c1 (by omega) c1' (by simp [Lit.wf, IntKind.min, IntKind.max, IntKind.signed, IntKind.bits] at hp; omega)

set_option maxRecDepth 100000 in
theorem lifted (os : Os) (started : os.Started) (H : Type) (enc : TypeId × Value → H) :
    ReturnsInHanded {} Try.checked os 3 .any (Rows.trailMatchesSpec.pre6 enc Try.prog Try.f3 Rows.trailMatchesRow.domain false) (Rows.trailMatchesSpec.post enc Try.prog Try.f3 false true false false) :=
  frame_lifted (C := Try.checked) own started (by kernel_rfl) Try.func3
    (ChangeSpec.witness6 (enc := enc) (C := Try.checked) false ⟨#[], #[.agg #[.int .i64 0, .int .i64 0, .slice none 0 0], .int .i64 0, .int .i64 0, .slice none 0 0, .int .i64 0], []⟩ 8 (by kernel_rfl) (by kernel_rfl) (by kernel_rfl) (by kernel_rfl)) laidOut (by kernel_rfl) rfl (by rfl) Try.underlying4
    (fun ds h => match ds, h with | [d0, d1, d2, d3, d4], _ => ⟨rfl, rfl, rfl⟩) (walks enc)

theorem over : Rows.trailMatchesRow.holds Try.pinned (OpenSpec.ofChange Rows.trailMatchesSpec) :=
  OpenClaim.holds_of_wide 3 Try.f3 rfl rfl rfl rfl rfl rfl rfl ⟨rfl, rfl, rfl, rfl, rfl⟩ rfl rfl rfl rfl rfl (by kernel_rfl) Try.func3 (by kernel_rfl)
    (of_decide_eq_true (by kernel_rfl)) (by unfold Func.isWrapper; first | (rw [if_pos (by decide +kernel)]; kernel_rfl) | (rw [if_neg (by decide +kernel)]; exact ⟨rfl, rfl⟩))
    (fun os started H enc _ => lifted os started H enc)

/-- the statement -/
theorem proved : Rows.TrailMatchesSaid := over
end Go.Proofs.Ytdladjgdhnkkcaa.lawTrailMatches
