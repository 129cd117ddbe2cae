/-
  The statement TrailParts: entries put in two parts make what they make at once.
  No condition.
-/
import Derived.Test.YtdladjgdhnkkcaaTrW
import Derived.Test.YtdladjgdhnkkcaaTrB
import Derived.IntWalk
import Derived.Deep.RegionHeld3
namespace Go.Proofs.Ytdladjgdhnkkcaa.lawTrailParts
open Go.ChangeShapes Go.WideShapes Go.ChangeAt Go.RowKit
set_option linter.unusedVariables false
set_option linter.unusedSimpArgs false

theorem resT_any {base : Nat} {b bt : Int} {o : Option (List En)} {v : Value} {w : World} (h : ResT base b bt o v w) :
    ∃ x y A n c, v = .tuple #[trV x y A n c, .bool o.isSome] ∧ (∀ out, o = some out → x = b ∧ y = bt ∧ n = out.length ∧ out.length ≤ c ∧ RdE w A out ∧ ∀ g off sp, A = some ⟨g, off, sp⟩ → base ≤ g) := by
  rcases o with _ | out
  · exact ⟨0, 0, none, 0, 0, h, fun _ e => by cases e⟩
  · obtain ⟨A, cap, rfl, h1, h2, h3⟩ := h
    exact ⟨b, bt, A, _, cap, rfl, fun _ e => by cases e; exact ⟨rfl, rfl, rfl, h1, h2, h3⟩⟩
theorem put_rng {b bt prev of fixed : Int} {es l out : List En} (h : Tr.put b bt es prev of l fixed = some out) : 0 ≤ prev ∧ prev ≤ 1099511631872 ∧ 0 ≤ b ∧ b ≤ 1099511627776 ∧ es.length ≤ 4096 := by
  obtain ⟨h1, h2, _, _, h⟩ := (Tr.put_iff _ _ _ _ _ _ _ _).1 h
  have hr := Tr.chk_rim h1
  refine ⟨h2, ?_, hr.1, hr.2.1, hr.2.2.2.2.2.1⟩
  rcases h with ⟨h, _⟩ | ⟨h, _⟩ | ⟨h, hp⟩
  · omega
  · omega
  · have := hp.le
    omega
theorem u64_range (x : Int) : 0 ≤ IntKind.u64.wrap x ∧ IntKind.u64.wrap x < 18446744073709551616 := by
  simp [IntKind.wrap, IntKind.bits, IntKind.signed]
  omega

theorem sw_put3 {w W : World} {g0 g1 g : Nat} {t0 t1 : TypeId} {cs0 cs1 : Array Value} {x y : Int} {v : Value} (h : SW w [(g0, t0, cs0), (g1, t1, cs1), (g, 24, zT)] W) (h0 : g0 ≠ g) (h1 : g1 ≠ g) (hg : w.heap.size ≤ g) :
    SW w [(g0, t0, cs0), (g1, t1, cs1), (g, 24, #[.int .i64 x, .int .i64 y, v])] (put3 W g x y v) := by
  refine ⟨put3_bel h.1 hg, fun p hp => ?_⟩
  simp only [List.mem_cons, List.not_mem_nil, or_false] at hp
  rcases hp with rfl | rfl | rfl
  · exact (((h.at_ 0 rfl).far (p := ⟨g, 0, none⟩) h0 _).far (p := ⟨g, 1, none⟩) h0 _).far (p := ⟨g, 2, none⟩) h0 _
  · exact (((h.at_ 1 rfl).far (p := ⟨g, 0, none⟩) h1 _).far (p := ⟨g, 1, none⟩) h1 _).far (p := ⟨g, 2, none⟩) h1 _
  · exact (((h.at_ 2 rfl).set 0 (.int .i64 x)).set 1 (.int .i64 y)).set 2 v
theorem sw_put3g {w W : World} {g : Nat} {L : List (Nat × TypeId × Array Value)} {x y : Int} {v : Value} (h : SW w (L ++ [(g, 24, zT)]) W) (h0 : ∀ p ∈ L, p.1 ≠ g) (hg : w.heap.size ≤ g) :
    SW w (L ++ [(g, 24, #[.int .i64 x, .int .i64 y, v])]) (put3 W g x y v) := by
  refine ⟨put3_bel h.1 hg, fun p hp => ?_⟩
  rcases List.mem_append.1 hp with hp | hp
  · have hb := h.2 p (List.mem_append.2 (.inl hp))
    have hn := h0 p hp
    exact ((hb.far (p := ⟨g, 0, none⟩) hn _).far (p := ⟨g, 1, none⟩) hn _).far (p := ⟨g, 2, none⟩) hn _
  · simp only [List.mem_singleton] at hp
    subst hp
    have hb := h.2 (g, 24, zT) (List.mem_append.2 (.inr (by simp)))
    exact ((hb.set 0 (.int .i64 x)).set 1 (.int .i64 y)).set 2 v
theorem wrap_i64 (x : Int) (h0 : -9223372036854775808 ≤ x) (h1 : x ≤ 9223372036854775807) : IntKind.i64.wrap x = x := by
  simp [IntKind.wrap, IntKind.bits, IntKind.signed]
  omega
theorem rd_put3 {W0 W : World} {g : Nat} {x y : Int} {v : Value} {A : Option Addr} {es : List En} (h0 : RdE W0 A es) (h : RdE W A es) (hg : W0.heap.size ≤ g) : RdE (put3 W g x y v) A es := by
  rcases Nat.eq_zero_or_pos es.length with hz | hz
  · exact fun i hi => by omega
  · obtain ⟨b, off, e, hb, _⟩ := h0 0 hz
    exact put3_rd h (fun b' off' sp' e' => by rw [e] at e'; injection e' with e'; injection e' with e1 _ _; omega)
theorem bel_rd {W : World} {A : Option Addr} {es : List En} (h : RdE W A es) : RdE W.drew A es := h.bel ((Below.refl _ _).drew)

set_option maxRecDepth 20000 in
set_option maxHeartbeats 16000000 in
theorem walk (b bt prev of fixed at_ : Int) (A : Option Addr) (cap : Nat) (es : List En) (B : Option Addr) (cap' : Nat) (l : List En) (w : World) (hR : RdE w A es) (hM : RdE w B l) (hlen : es.length ≤ 2 ^ 47) (hcap : es.length ≤ cap) (hll : l.length ≤ 6000000000000) (hcap' : l.length ≤ cap') (hpr : prev ≤ 9223372036854775807) :
    Calls Try.prog 4 #[trV b bt A es.length cap, .int .i64 prev, .int .i64 of, .slice B l.length cap', .int .i64 at_, .int .i64 fixed] w fun e w' => e = .returned (.bool true) ∧ Below w.heap.size w w' := by
  obtain ⟨n, hn, hnl⟩ : ∃ n : Nat, wrap64 ((IntKind.u64.wrap at_).tmod ((l.length : Int) + 1)) = (n : Int) ∧ n ≤ l.length := by
    have hs := u64_range at_
    have hr := Int.tmod_lt_of_pos (IntKind.u64.wrap at_) (show (0 : Int) < (l.length : Int) + 1 by omega)
    have hr0 := Int.tmod_nonneg ((l.length : Int) + 1) hs.1
    generalize (IntKind.u64.wrap at_).tmod ((l.length : Int) + 1) = r at *
    exact ⟨r.toNat, by rw [show wrap64 r = r from by unfold wrap64; omega]; omega, by omega⟩
  have u1 : (l.length : Int) + 1 < 18446744073709551616 := by omega
  have HN := Lib.hid hn
  clear hn
  obtain ⟨o1, ho1⟩ : ∃ o, o = Tr.put b bt es prev of l fixed := ⟨_, rfl⟩
  obtain ⟨o2, ho2⟩ : ∃ o, o = Tr.put b bt es prev of (l.take n) fixed := ⟨_, rfl⟩
  have hp1 := Lib.hid (fun W hb => put_calls b bt prev of fixed A cap es B cap' l W (hR.bel hb) (hM.bel hb) hlen hcap hll hcap' hpr)
  rw [← ho1] at hp1
  have hln : (l.take n).length = n := by simp; omega
  have hp2 := Lib.hid (fun W hb => put_calls b bt prev of fixed A cap es B cap' (l.take n) W (hR.bel hb) ((hM.bel hb).take n) hlen hcap (by omega) (by omega) hpr)
  rw [← ho2, hln] at hp2
  have hS := Lib.hid ((SW.nil w).new 24 #[.int .i64 b, .int .i64 bt, .slice A es.length cap] w.heap.size rfl)
  have HR := Lib.hid hR
  have HM := Lib.hid hM
  have HO1 := Lib.hid ho1
  have HO2 := Lib.hid ho2
  have m1 : (n : Int) ≤ (cap' : Int) := by omega
  have m2 : (0 : Int) ≤ (n : Int) := by omega
  have m3 : (n : Int) ≤ (l.length : Int) := by omega
  clear hR hM ho1 ho2 hln
  go_enter Try.func4, Try.ntmps4
  go_wp2_with fail
  refine (trail_awake _).mono ?_
  rintro e w0 ⟨rfl, hb0⟩
  have hs0 := Lib.hid (hS.out.bel hb0)
  have c0 := (hs0.out.at_ 0 rfl).cells
  clear hb0 hS
  go_wp2_with fail
  rw [HN.out]
  refine (hp1.out _ hs0.out.1).mono ?_
  rintro e w1 ⟨⟨v, rfl, hv⟩, hb1⟩
  have hs1 := Lib.hid (hs0.out.bel hb1)
  obtain ⟨x1, y1, A1, n1, c1, rfl, hq1⟩ := resT_any hv
  clear hb1 hs0 c0 hp1 hv
  go_wp2_with fail
  have hs2 := Lib.hid (show SW w [(w.heap.size, 24, #[.int .i64 b, .int .i64 bt, .slice A es.length cap]), (w1.heap.size, 24, #[.int .i64 x1, .int .i64 y1, .slice A1 n1 c1])] _ from hs1.out.new 24 #[.int .i64 x1, .int .i64 y1, .slice A1 n1 c1] w1.heap.size rfl)
  have hrd2 := Lib.hid (show ∀ out, o1 = some out → x1 = b ∧ y1 = bt ∧ n1 = out.length ∧ out.length ≤ c1 ∧ RdE (w1.alloc (.cells #[.int .i64 x1, .int .i64 y1, .slice A1 n1 c1] 24)) A1 out from fun out h => by
    obtain ⟨a1, a2, a3, a4, a5, _⟩ := hq1 out h
    exact ⟨a1, a2, a3, a4, a5.bel (bel_new (Below.refl _ _) _)⟩)
  have hgw1 := hs1.out.1.size
  clear hq1 hs1
  generalize w1.alloc (.cells #[.int .i64 x1, .int .i64 y1, .slice A1 n1 c1] 24) = w2 at *
  have hgw0 : w.heap.size ≤ w1.heap.size := hgw1
  generalize w1.heap.size = ga at *
  have c2 : ∀ i, (w2.drew).cell? ⟨w.heap.size, i, none⟩ = (#[.int .i64 b, .int .i64 bt, .slice A es.length cap] : Array Value)[i]? := (hs2.out.drew.at_ 0 rfl).cells
  have hs2' := Lib.hid (show SW w [(w.heap.size, 24, #[.int .i64 b, .int .i64 bt, .slice A es.length cap]), (ga, 24, #[.int .i64 x1, .int .i64 y1, .slice A1 n1 c1]), (w2.heap.size, 24, zT)] _ from hs2.out.drew.new 24 zT w2.heap.size rfl)
  have q0 : w2.cell? ⟨w.heap.size, 0, none⟩ = some (.int .i64 b) := (hs2.out.at_ 0 rfl).cells 0
  have q1 : w2.cell? ⟨w.heap.size, 1, none⟩ = some (.int .i64 bt) := (hs2.out.at_ 0 rfl).cells 1
  have q2 : w2.cell? ⟨w.heap.size, 2, none⟩ = some (.slice A es.length cap) := (hs2.out.at_ 0 rfl).cells 2
  clear c2
  have n1w : w2.heap.size ≠ w.heap.size := by have := (hs2.out.at_ 0 rfl).lt; omega
  go_region_held3 (fun W => W.cell? ⟨w.heap.size, 0, none⟩ = some (.int .i64 b) ∧ W.cell? ⟨w.heap.size, 1, none⟩ = some (.int .i64 bt) ∧ W.cell? ⟨w.heap.size, 2, none⟩ = some (.slice A es.length cap)) (go_keep) (first
    | (go_at_call 18; refine (hp2.out _ (by first | exact hs2.out.drew.1 | exact hs2'.out.1)).mono ?_; rintro e w3 ⟨⟨v, rfl, hv⟩, hb3⟩; obtain ⟨x2, y2, A2, n2, c3, rfl, hq2⟩ := resT_any hv; (first | (have hsA := Lib.hid (hs2.out.drew.bel hb3); have hr3 := Lib.hid (fun out h => (bel_rd (hrd2.out out h).2.2.2.2).bel hb3); have hcc := (hsA.out.at_ 0 rfl).cells) | (have hsB := Lib.hid (hs2'.out.bel hb3); have hr3 := Lib.hid (fun out h => ((hrd2.out out h).2.2.2.2.bel (bel_drew (bel_new (Below.refl _ _) (.cells zT 24)))).bel hb3); have hcc := (hsB.out.at_ 0 rfl).cells; have hc3 := (hsB.out.at_ 2 rfl).cells; have hf3 := (hsB.out.at_ 2 rfl).free)); clear hb3 hv))
  all_goals
    have hgw : w.heap.size ≤ ga := hgw0
    first
      | (have hs4 := Lib.hid (show SW w [(w.heap.size, 24, #[.int .i64 b, .int .i64 bt, .slice A es.length cap]), (ga, 24, #[.int .i64 x1, .int .i64 y1, .slice A1 n1 c1]), (w3.heap.size, 24, #[.int .i64 x2, .int .i64 y2, .slice A2 n2 c3])] _ from hsA.out.new 24 #[.int .i64 x2, .int .i64 y2, .slice A2 n2 c3] w3.heap.size rfl)
         have r1 := Lib.hid (fun out h => (hr3.out out h).bel (bel_new (Below.refl _ _) (.cells #[.int .i64 x2, .int .i64 y2, .slice A2 n2 c3] 24)))
         have r2 := Lib.hid (fun m h => (hq2 m h).2.2.2.2.1.bel (bel_new (Below.refl _ _) (.cells #[.int .i64 x2, .int .i64 y2, .slice A2 n2 c3] 24)))
         clear hsA
         generalize w3.alloc (.cells #[.int .i64 x2, .int .i64 y2, .slice A2 n2 c3] 24) = w4 at *
         generalize w3.heap.size = g4 at *)
      | (have hn0 := (hs2.out.at_ 0 rfl).lt
         have hn1 := (hs2.out.at_ 1 rfl).lt
         have hs4 := Lib.hid (sw_put3 (x := x2) (y := y2) (v := .slice A2 n2 c3) hsB.out (by omega) (by omega) (by omega))
         have r1 := Lib.hid (fun out h => rd_put3 (g := w2.heap.size) (x := x2) (y := y2) (v := .slice A2 n2 c3) (hrd2.out out h).2.2.2.2 (hr3.out out h) (Nat.le_refl _))
         have r2 := Lib.hid (fun m h => put3_rd (g := w2.heap.size) (b := x2) (bt := y2) (v := .slice A2 n2 c3) (hq2 m h).2.2.2.2.1 (fun b off sp e => by have := (hq2 m h).2.2.2.2.2 b off sp e; simp at this; omega))
         simp only [put3] at hs4 r1 r2
         clear hsB hc3 hf3 hn0 hn1
         generalize ((w3.setCell ⟨w2.heap.size, 0, none⟩ (.int .i64 x2)).setCell ⟨w2.heap.size, 1, none⟩ (.int .i64 y2)).setCell ⟨w2.heap.size, 2, none⟩ (.slice A2 n2 c3) = w4 at *
         generalize w2.heap.size = g4 at *)
    have e1 := Lib.hid (fun out h => And.intro (hrd2.out out h).1 (And.intro (hrd2.out out h).2.1 (And.intro (hrd2.out out h).2.2.1 (hrd2.out out h).2.2.2.1)))
    have e2 := Lib.hid (fun m h => And.intro (hq2 m h).1 (And.intro (hq2 m h).2.1 (And.intro (hq2 m h).2.2.1 (hq2 m h).2.2.2.1)))
    clear hrd2 hq2 hr3 hcc q0 q1 q2 hs2 hs2' hp2 n1w
    rcases o1 with _ | out
    · go_wp2_with fail
      all_goals
        go_ret
        exact ⟨rfl, hs4.out.1⟩
    · by_cases hn0 : n = 0
      · subst hn0
        go_wp2_with fail
        go_ret
        exact ⟨rfl, hs4.out.1⟩
      · obtain ⟨m, hm1, hm2⟩ := Tr.put_parts HO1.out.symm n (by omega) hnl
        have ho2 : o2 = some m := by rw [HO2.out, hm1]
        subst ho2
        obtain ⟨rfl, rfl, rfl, f1⟩ := e1.out _ rfl
        obtain ⟨rfl, rfl, rfl, f2⟩ := e2.out _ rfl
        have hrA := Lib.hid (r1.out _ rfl)
        have hrB := Lib.hid (r2.out _ rfl)
        have hrg := put_rng HO1.out.symm
        obtain ⟨k1, k2, k3, k4, k5⟩ := hrg
        have HM1 := Lib.hid hm1
        have HM2 := Lib.hid hm2
        have hck := Tr.chk_rim (Tr.put_chk hm1)
        have hml : m.length ≤ 4096 := hck.2.2.2.2.2.1
        have hol : out.length ≤ 4096 := (Tr.chk_rim (Tr.put_chk HO1.out.symm)).2.2.2.2.2.1
        clear r1 r2 e1 e2 hm1 hm2 hck
        have hnz : ((n : Int) == 0) = false := by rw [beq_eq_false_iff_ne]; omega
        obtain ⟨bl, off, rfl, hbl, hcl, _⟩ := HM.out (n - 1) (by omega)
        obtain ⟨j, hj⟩ : ∃ j, n - 1 = j := ⟨_, rfl⟩
        rw [hj] at hcl HM2
        obtain ⟨y, hy⟩ : ∃ y, y = (l.getD j default).1 := ⟨_, rfl⟩
        rw [← hy] at hcl HM2
        obtain ⟨o3, ho3⟩ : ∃ o, o = Tr.put x2 y2 m (prev + n) y (l.drop n) fixed := ⟨_, rfl⟩
        rw [← ho3] at HM2
        have HO3 := Lib.hid ho3
        have hj1 : (n : Int) - 1 = (j : Int) := by omega
        have b1 : (j : Int) < (l.length : Int) := by omega
        have b2 : (0 : Int) ≤ (j : Int) := by omega
        have b5 : j < l.length := by omega
        have hw1 : IntKind.i64.wrap (j : Int) = (j : Int) := wrap_i64 _ (by omega) (by omega)
        have hw2 : IntKind.i64.wrap (prev + (n : Int)) = prev + (n : Int) := wrap_i64 _ (by omega) (by omega)
        clear hj
        have b3 : prev + (n : Int) ≤ 9223372036854775807 := by omega
        have b4 : -9223372036854775808 ≤ prev + (n : Int) := by omega
        have s0 : w4.cell? ⟨g4, 0, none⟩ = some (.int .i64 x2) := (hs4.out.at_ 2 rfl).cells 0
        have s1 : w4.cell? ⟨g4, 1, none⟩ = some (.int .i64 y2) := (hs4.out.at_ 2 rfl).cells 1
        have s2 : w4.cell? ⟨g4, 2, none⟩ = some (.slice A2 m.length c3) := (hs4.out.at_ 2 rfl).cells 2
        have s3 : w4.cell? ⟨bl, off + j * 2, none⟩ = some (.int .i64 y) := (hs4.out.1.cell (p := ⟨bl, off + j * 2, none⟩) hbl).trans hcl
        have n4 : w4.heap.size ≠ g4 := by have := (hs4.out.at_ 2 rfl).lt; omega
        have n5 : w4.heap.size ≠ bl := by have := hs4.out.1.size; omega
        have z0 := (hs4.out.at_ 0 rfl).lt
        have z1 := (hs4.out.at_ 1 rfl).lt
        have z2 := (hs4.out.at_ 2 rfl).lt
        have hs4' := Lib.hid (show SW w ([(w.heap.size, 24, #[.int .i64 x2, .int .i64 y2, .slice A es.length cap]), (ga, 24, #[.int .i64 x2, .int .i64 y2, .slice A1 out.length c1]), (g4, 24, #[.int .i64 x2, .int .i64 y2, .slice A2 m.length c3])] ++ [(w4.heap.size, 24, zT)]) _ from hs4.out.drew.new 24 zT w4.heap.size rfl)
        have HHB := Lib.hid hy
        have BASE := Lib.hid hgw0
        have HCL := Lib.hid hcl
        clear hy ho3 hcl
        by_cases hcn : cap' = n
        · have hz : l.length - n = 0 := by omega
          have hp3 := Lib.hid (fun (W : World) hr => put_calls x2 y2 (prev + n) y fixed A2 c3 m (some ⟨bl, off, none⟩) 0 (l.drop n) W hr (by rw [List.drop_of_length_le (by omega)]; exact RdE.nil _ _) (by omega) f2 (by simp; omega) (by simp; omega) b3)
          rw [← HO3.out, List.length_drop, hz] at hp3
          have hll2 : l.length = n := by omega
          subst hcn
          have b6 : (j : Int) < (cap' : Int) := by omega
          have b7 : j < cap' := by omega
          go_wp2_with fail
          go_region_held3 (fun W => W.cell? ⟨g4, 0, none⟩ = some (.int .i64 x2) ∧ W.cell? ⟨g4, 1, none⟩ = some (.int .i64 y2) ∧ W.cell? ⟨g4, 2, none⟩ = some (.slice A2 m.length c3) ∧ W.cell? ⟨bl, off + j * 2, none⟩ = some (.int .i64 y)) (go_keep) (first
            | (go_at_call 18; refine (hp3.out _ (by first | exact bel_rd hrB.out | exact hrB.out.bel (bel_drew (bel_new (Below.refl _ _) (.cells zT 24))))).mono ?_; rintro e w5 ⟨⟨v, rfl, hv⟩, hb5⟩; obtain ⟨x3, y3, A3, n3, c4, rfl, hq3⟩ := resT_any hv; (first | (have hsA := Lib.hid (hs4.out.drew.bel hb5); have hr5 := Lib.hid ((bel_rd hrA.out).bel hb5); have i0 := (hsA.out.at_ 2 rfl).cells; have i1 := (hsA.out.1.cell (p := ⟨bl, off + j * 2, none⟩) hbl).trans HCL.out) | (have hsB := Lib.hid (hs4'.out.bel hb5); have hr5 := Lib.hid ((hrA.out.bel (bel_drew (bel_new (Below.refl _ _) (.cells zT 24)))).bel hb5); have i0 := (hsB.out.at_ 2 rfl).cells; have i1 := (hsB.out.1.cell (p := ⟨bl, off + j * 2, none⟩) hbl).trans HCL.out; have hc3 := (hsB.out.at_ 3 rfl).cells; have hf3 := (hsB.out.at_ 3 rfl).free)); clear hb5 hv))
          all_goals
            first
              | (have hs6 := Lib.hid (show SW w [(w.heap.size, 24, #[.int .i64 x2, .int .i64 y2, .slice A es.length cap]), (ga, 24, #[.int .i64 x2, .int .i64 y2, .slice A1 out.length c1]), (g4, 24, #[.int .i64 x2, .int .i64 y2, .slice A2 m.length c3]), (w5.heap.size, 24, #[.int .i64 x3, .int .i64 y3, .slice A3 n3 c4])] _ from hsA.out.new 24 #[.int .i64 x3, .int .i64 y3, .slice A3 n3 c4] w5.heap.size rfl)
                 have r1 := Lib.hid (hr5.out.bel (bel_new (Below.refl _ _) (.cells #[.int .i64 x3, .int .i64 y3, .slice A3 n3 c4] 24)))
                 have r2 := Lib.hid (fun m h => (hq3 m h).2.2.2.2.1.bel (bel_new (Below.refl _ _) (.cells #[.int .i64 x3, .int .i64 y3, .slice A3 n3 c4] 24)))
                 clear hsA
                 generalize w5.alloc (.cells #[.int .i64 x3, .int .i64 y3, .slice A3 n3 c4] 24) = w6 at *
                 generalize w5.heap.size = g6 at *)
              | (have hs6 := Lib.hid (show SW w [(w.heap.size, 24, #[.int .i64 x2, .int .i64 y2, .slice A es.length cap]), (ga, 24, #[.int .i64 x2, .int .i64 y2, .slice A1 out.length c1]), (g4, 24, #[.int .i64 x2, .int .i64 y2, .slice A2 m.length c3]), (w4.heap.size, 24, #[.int .i64 x3, .int .i64 y3, .slice A3 n3 c4])] _ from sw_put3g (x := x3) (y := y3) (v := .slice A3 n3 c4) hsB.out (by intro p hp; simp only [List.mem_cons, List.not_mem_nil, or_false] at hp; rcases hp with rfl | rfl | rfl <;> simp only <;> omega) (by omega))
                 have r1 := Lib.hid (rd_put3 (g := w4.heap.size) (x := x3) (y := y3) (v := .slice A3 n3 c4) hrA.out hr5.out (Nat.le_refl _))
                 have r2 := Lib.hid (fun m h => put3_rd (g := w4.heap.size) (b := x3) (bt := y3) (v := .slice A3 n3 c4) (hq3 m h).2.2.2.2.1 (fun b off sp e => by have := (hq3 m h).2.2.2.2.2 b off sp e; simp at this; omega))
                 simp only [put3] at hs6 r1 r2
                 clear hsB hc3 hf3
                 generalize ((w5.setCell ⟨w4.heap.size, 0, none⟩ (.int .i64 x3)).setCell ⟨w4.heap.size, 1, none⟩ (.int .i64 y3)).setCell ⟨w4.heap.size, 2, none⟩ (.slice A3 n3 c4) = w6 at *
                 generalize w4.heap.size = g6 at *)
            have c6 := (hs6.out.at_ 0 rfl).cells
            have ca6 := (hs6.out.at_ 1 rfl).cells
            have cc6 := (hs6.out.at_ 3 rfl).cells
            clear s0 s1 s2 s3 n4 n5 z0 z1 z2 hs4 hs4' i0 i1 hr5 hrA hrB hp3
            by_cases hpb : prev < x2
            · by_cases hpn : x2 ≤ prev + (cap' : Int)
              · have ho := HM2.out hpn
                subst ho
                go_wp2_with fail
                go_ret
                exact ⟨rfl, hs6.out.1⟩
              · have hpn2 : prev + (cap' : Int) < x2 := by omega
                cases o3
                all_goals
                  go_wp2_with fail
                  go_ret
                  exact ⟨rfl, hs6.out.1⟩
            · have ho := HM2.out (by omega)
              subst ho
              obtain ⟨rfl, rfl, rfl, f3, _⟩ := hq3 _ rfl
              have hsm := Lib.hid (same_calls x3 y3 x3 y3 A1 A3 c1 c4 out out w6 r1.out (r2.out _ rfl) (by omega) (by omega))
              rw [dec_t ⟨rfl, rfl, rfl⟩] at hsm
              clear r1 r2 hq3
              go_wp2_with fail
              refine hsm.out.mono ?_
              rintro e w7 ⟨rfl, hb7⟩
              have hs7 := (hs6.out.bel hb7).1
              clear hb7
              go_wp2_with fail
              go_ret
              exact ⟨rfl, hs7⟩
        · have hrd := HM.out.drop n cap' hcap'
          rw [if_neg hcn] at hrd
          simp only [Option.map_some, addr_add] at hrd
          have HRD := Lib.hid hrd
          clear hrd
          have hp3 := Lib.hid (fun (W : World) (hb : Below w.heap.size w W) hr => put_calls x2 y2 (prev + n) y fixed A2 c3 m (some ⟨bl, off + n * 2, none⟩) (cap' - n) (l.drop n) W hr (HRD.out.bel hb) (by omega) f2 (by simp; omega) (by simp; omega) b3)
          rw [← HO3.out, List.length_drop] at hp3
          go_wp2_with fail
          go_region_held3 (fun W => W.cell? ⟨g4, 0, none⟩ = some (.int .i64 x2) ∧ W.cell? ⟨g4, 1, none⟩ = some (.int .i64 y2) ∧ W.cell? ⟨g4, 2, none⟩ = some (.slice A2 m.length c3) ∧ W.cell? ⟨bl, off + j * 2, none⟩ = some (.int .i64 y)) (go_keep) (first
            | (go_at_call 18; refine (hp3.out _ (by first | exact hs4.out.drew.1 | exact hs4'.out.1) (by first | exact bel_rd hrB.out | exact hrB.out.bel (bel_drew (bel_new (Below.refl _ _) (.cells zT 24))))).mono ?_; rintro e w5 ⟨⟨v, rfl, hv⟩, hb5⟩; obtain ⟨x3, y3, A3, n3, c4, rfl, hq3⟩ := resT_any hv; (first | (have hsA := Lib.hid (hs4.out.drew.bel hb5); have hr5 := Lib.hid ((bel_rd hrA.out).bel hb5); have i0 := (hsA.out.at_ 2 rfl).cells; have i1 := (hsA.out.1.cell (p := ⟨bl, off + j * 2, none⟩) hbl).trans HCL.out) | (have hsB := Lib.hid (hs4'.out.bel hb5); have hr5 := Lib.hid ((hrA.out.bel (bel_drew (bel_new (Below.refl _ _) (.cells zT 24)))).bel hb5); have i0 := (hsB.out.at_ 2 rfl).cells; have i1 := (hsB.out.1.cell (p := ⟨bl, off + j * 2, none⟩) hbl).trans HCL.out; have hc3 := (hsB.out.at_ 3 rfl).cells; have hf3 := (hsB.out.at_ 3 rfl).free)); clear hb5 hv))
          all_goals
            first
              | (have hs6 := Lib.hid (show SW w [(w.heap.size, 24, #[.int .i64 x2, .int .i64 y2, .slice A es.length cap]), (ga, 24, #[.int .i64 x2, .int .i64 y2, .slice A1 out.length c1]), (g4, 24, #[.int .i64 x2, .int .i64 y2, .slice A2 m.length c3]), (w5.heap.size, 24, #[.int .i64 x3, .int .i64 y3, .slice A3 n3 c4])] _ from hsA.out.new 24 #[.int .i64 x3, .int .i64 y3, .slice A3 n3 c4] w5.heap.size rfl)
                 have r1 := Lib.hid (hr5.out.bel (bel_new (Below.refl _ _) (.cells #[.int .i64 x3, .int .i64 y3, .slice A3 n3 c4] 24)))
                 have r2 := Lib.hid (fun m h => (hq3 m h).2.2.2.2.1.bel (bel_new (Below.refl _ _) (.cells #[.int .i64 x3, .int .i64 y3, .slice A3 n3 c4] 24)))
                 clear hsA
                 generalize w5.alloc (.cells #[.int .i64 x3, .int .i64 y3, .slice A3 n3 c4] 24) = w6 at *
                 generalize w5.heap.size = g6 at *)
              | (have hs6 := Lib.hid (show SW w [(w.heap.size, 24, #[.int .i64 x2, .int .i64 y2, .slice A es.length cap]), (ga, 24, #[.int .i64 x2, .int .i64 y2, .slice A1 out.length c1]), (g4, 24, #[.int .i64 x2, .int .i64 y2, .slice A2 m.length c3]), (w4.heap.size, 24, #[.int .i64 x3, .int .i64 y3, .slice A3 n3 c4])] _ from sw_put3g (x := x3) (y := y3) (v := .slice A3 n3 c4) hsB.out (by intro p hp; simp only [List.mem_cons, List.not_mem_nil, or_false] at hp; rcases hp with rfl | rfl | rfl <;> simp only <;> omega) (by omega))
                 have r1 := Lib.hid (rd_put3 (g := w4.heap.size) (x := x3) (y := y3) (v := .slice A3 n3 c4) hrA.out hr5.out (Nat.le_refl _))
                 have r2 := Lib.hid (fun m h => put3_rd (g := w4.heap.size) (b := x3) (bt := y3) (v := .slice A3 n3 c4) (hq3 m h).2.2.2.2.1 (fun b off sp e => by have := (hq3 m h).2.2.2.2.2 b off sp e; simp at this; omega))
                 simp only [put3] at hs6 r1 r2
                 clear hsB hc3 hf3
                 generalize ((w5.setCell ⟨w4.heap.size, 0, none⟩ (.int .i64 x3)).setCell ⟨w4.heap.size, 1, none⟩ (.int .i64 y3)).setCell ⟨w4.heap.size, 2, none⟩ (.slice A3 n3 c4) = w6 at *
                 generalize w4.heap.size = g6 at *)
            have c6 := (hs6.out.at_ 0 rfl).cells
            have ca6 := (hs6.out.at_ 1 rfl).cells
            have cc6 := (hs6.out.at_ 3 rfl).cells
            clear s0 s1 s2 s3 n4 n5 z0 z1 z2 hs4 hs4' i0 i1 hr5 hrA hrB hp3
            by_cases hpb : prev < x2
            · by_cases hpn : x2 ≤ prev + (n : Int)
              · have ho := HM2.out hpn
                subst ho
                go_wp2_with fail
                go_ret
                exact ⟨rfl, hs6.out.1⟩
              · have hpn2 : prev + (n : Int) < x2 := by omega
                cases o3
                all_goals
                  go_wp2_with fail
                  go_ret
                  exact ⟨rfl, hs6.out.1⟩
            · have ho := HM2.out (by omega)
              subst ho
              obtain ⟨rfl, rfl, rfl, f3, _⟩ := hq3 _ rfl
              have hsm := Lib.hid (same_calls x3 y3 x3 y3 A1 A3 c1 c4 out out w6 r1.out (r2.out _ rfl) (by omega) (by omega))
              rw [dec_t ⟨rfl, rfl, rfl⟩] at hsm
              clear r1 r2 hq3
              go_wp2_with fail
              refine hsm.out.mono ?_
              rintro e w7 ⟨rfl, hb7⟩
              have hs7 := (hs6.out.bel hb7).1
              clear hb7
              go_wp2_with fail
              go_ret
              exact ⟨rfl, hs7⟩

set_option maxRecDepth 100000 in
theorem walks {H : Type} (enc : TypeId × Value → H) : Walks enc Try.prog 4 Try.f4 := by
  intro W base args ds ps hval hA hwt
  rw [Try.params4] at hA hval hwt
  obtain ⟨v0, vs0, d0, ds0, p0, q0, hargs, rfl, rfl, h0, r0⟩ := trodAll_cons hA
  obtain ⟨v1, vs1, d1, ds1, p1, q1, rfl, rfl, rfl, h1, r1⟩ := trodAll_cons r0
  obtain ⟨v2, vs2, d2, ds2, p2, q2, rfl, rfl, rfl, h2, r2⟩ := trodAll_cons r1
  obtain ⟨v3, vs3, d3, ds3, p3, q3, rfl, rfl, rfl, h3, r3⟩ := trodAll_cons r2
  obtain ⟨v4, vs4, d4, ds4, p4, q4, rfl, rfl, rfl, h4, r4⟩ := trodAll_cons r3
  obtain ⟨v5, vs5, d5, ds5, p5, q5, rfl, rfl, rfl, h5, r5⟩ := trodAll_cons r4
  obtain ⟨rfl, rfl, rfl⟩ := trodAll_nil r5
  obtain rfl : args = #[v0, v1, v2, v3, v4, v5] := by cases args; simp_all
  obtain ⟨b, bt, A, es, cap, rfl, _, _, c1, c2, hR⟩ := trail_arg (hval 0 24 v0 rfl rfl) h0 (weightsEach_at (i := 0) hwt rfl rfl)
  obtain ⟨prev, rfl, rfl, rfl, hp⟩ := open_int Try.underlying2 (hval 1 2 v1 rfl rfl) h1
  obtain ⟨of, rfl, rfl, rfl, _⟩ := open_int Try.underlying2 (hval 2 2 v2 rfl rfl) h2
  obtain ⟨B, l, cap', rfl, c1', c2', hM⟩ := entries_arg2 (hval 3 22 v3 rfl rfl) h3 (weightsEach_at (i := 3) hwt rfl rfl)
  obtain ⟨at_, rfl, rfl, rfl, _⟩ := open_int Try.underlying3 (hval 4 3 v4 rfl rfl) h4
  obtain ⟨fixed, rfl, rfl, rfl, _⟩ := open_int Try.underlying2 (hval 5 2 v5 rfl rfl) h5
  exact walk b bt prev of fixed at_ A cap es B cap' l W hR hM (by omega) c1 (by omega) c1' (by simp [Lit.wf, IntKind.min, IntKind.max, IntKind.signed, IntKind.bits] at hp; omega)

set_option maxRecDepth 100000 in
theorem lifted (os : Os) (started : os.Started) (H : Type) (enc : TypeId × Value → H) :
    ReturnsInHanded {} Try.checked os 4 .any (Rows.trailPartsSpec.pre6 enc Try.prog Try.f4 Rows.trailPartsRow.domain false) (Rows.trailPartsSpec.post enc Try.prog Try.f4 false true false false) :=
  frame_lifted (C := Try.checked) own started (by kernel_rfl) Try.func4
    (ChangeSpec.witness6 (enc := enc) (C := Try.checked) false ⟨#[], #[.agg #[.int .i64 0, .int .i64 0, .slice none 0 0], .int .i64 0, .int .i64 0, .slice none 0 0, .int .i64 0, .int .i64 0], []⟩ 8 (by kernel_rfl) (by kernel_rfl) (by kernel_rfl) (by kernel_rfl)) laidOut (by kernel_rfl) rfl (by rfl) Try.underlying4
    (fun ds h => match ds, h with | [d0, d1, d2, d3, d4, d5], _ => ⟨rfl, rfl, rfl⟩) (walks enc)

theorem over : Rows.trailPartsRow.holds Try.pinned (OpenSpec.ofChange Rows.trailPartsSpec) :=
  OpenClaim.holds_of_wide 4 Try.f4 rfl rfl rfl rfl rfl rfl rfl ⟨rfl, rfl, rfl, rfl, rfl⟩ rfl rfl rfl rfl rfl (by kernel_rfl) Try.func4 (by kernel_rfl)
    (of_decide_eq_true (by kernel_rfl)) (by unfold Func.isWrapper; first | (rw [if_pos (by decide +kernel)]; kernel_rfl) | (rw [if_neg (by decide +kernel)]; exact ⟨rfl, rfl⟩))
    (fun os started H enc _ => lifted os started H enc)

/-- the statement -/
theorem proved : Rows.TrailPartsSaid := over
end Go.Proofs.Ytdladjgdhnkkcaa.lawTrailParts
