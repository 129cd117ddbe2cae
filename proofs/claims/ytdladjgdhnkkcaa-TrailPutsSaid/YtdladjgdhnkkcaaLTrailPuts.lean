/-
  The statement TrailPuts: what entries put, an entry more, and a cut make of any log.
  No condition.
-/
import Derived.Test.YtdladjgdhnkkcaaTrR4
import Derived.Test.YtdladjgdhnkkcaaTrB
namespace Go.Proofs.Ytdladjgdhnkkcaa.lawTrailPuts
open Go.ChangeShapes Go.WideShapes Go.ChangeAt Go.RowKit
set_option linter.unusedVariables false
set_option linter.unusedSimpArgs false

def px (b : Int) (o : Option (List En)) : Int := if o.isSome then b else 0
theorem resT_p {base : Nat} {b bt : Int} {o : Option (List En)} {v : Value} {w : World} (h : ResT base b bt o v w) :
    ∃ A c, v = .tuple #[trV (px b o) (px bt o) A (o.getD []).length c, .bool o.isSome] ∧ RdE w A (o.getD []) ∧ ∀ g off sp, A = some ⟨g, off, sp⟩ → base ≤ g := by
  rcases o with _ | out
  · exact ⟨none, 0, h, RdE.nil _ _, fun _ _ _ e => by cases e⟩
  · obtain ⟨A, cap, rfl, h1, h2, h3⟩ := h
    exact ⟨A, cap, rfl, h2, h3⟩
theorem resW_p {b bt : Int} {o : Option (List En)} {v : Value} {w : World} (h : ResW b bt o v w) :
    ∃ A c, v = .tuple #[trV (px b o) (px bt o) A (o.getD []).length c, .bool o.isSome] ∧ RdE w A (o.getD []) := by
  rcases o with _ | out
  · exact ⟨none, 0, h, RdE.nil _ _⟩
  · obtain ⟨A, cap, rfl, h1, h2⟩ := h
    exact ⟨A, cap, rfl, h2⟩
theorem sw_put3i {w W : World} {L : List (Nat × TypeId × Array Value)} (i : Nat) {g : Nat} {p q r : Value} {x y : Int} {v : Value} (h : SW w L W) (hx : L[i]? = some (g, 24, #[p, q, r])) (hne : ∀ (j : Nat) (z : Nat × TypeId × Array Value), j ≠ i → L[j]? = some z → z.1 ≠ g) (hg : w.heap.size ≤ g) :
    SW w (L.set i (g, 24, #[.int .i64 x, .int .i64 y, v])) (put3 W g x y v) := by
  refine ⟨put3_bel h.1 hg, fun z hz => ?_⟩
  obtain ⟨j, hj⟩ := List.mem_iff_getElem?.1 hz
  by_cases hji : j = i
  · subst hji
    have hlt : j < L.length := (List.getElem?_eq_some_iff.1 hx).1
    rw [List.getElem?_set_self hlt] at hj
    cases hj
    exact (((h.at_ j hx).set 0 (.int .i64 x)).set 1 (.int .i64 y)).set 2 v
  · rw [List.getElem?_set_ne (fun e => hji e.symm)] at hj
    have hn := hne j z hji hj
    have hb := h.2 z (List.mem_of_getElem? hj)
    exact ((hb.far (p := ⟨g, 0, none⟩) hn _).far (p := ⟨g, 1, none⟩) hn _).far (p := ⟨g, 2, none⟩) hn _

set_option maxRecDepth 20000 in
set_option maxHeartbeats 8000000 in
theorem walk (b bt prev term fixed : Int) (A : Option Addr) (cap : Nat) (es : List En) (B : Option Addr) (cap' : Nat) (l : List En) (w : World) (hR : RdE w A es) (hM : RdE w B l) (hlen : es.length ≤ 2 ^ 47) (hcap : es.length ≤ cap) (hll : l.length ≤ 6000000000000) (hcap' : l.length ≤ cap') (hpr : prev ≤ 9223372036854775807) :
    Calls Try.prog 6 #[trV b bt A es.length cap, .int .i64 prev, .int .i64 term, .slice B l.length cap', .int .i64 fixed] w fun e w' => e = .returned (.bool true) ∧ Below w.heap.size w w' := by
  obtain ⟨o1, ho1⟩ : ∃ o, o = Tr.put b bt es prev term l fixed := ⟨_, rfl⟩
  obtain ⟨o2, ho2⟩ : ∃ o, o = (if Tr.chk b bt es then Tr.with_ b bt es es.length [(term, (⟨#[120]⟩ : ByteArray))] else none) := ⟨_, rfl⟩
  obtain ⟨o3, ho3⟩ : ∃ o, o = (if Tr.has b bt es prev then some (es.drop (prev - b).toNat) else none) := ⟨_, rfl⟩
  obtain ⟨tm, htm⟩ : ∃ x, x = Tr.trm b bt es prev := ⟨_, rfl⟩
  have hp1 := Lib.hid (fun W hb => put_calls b bt prev term fixed A cap es B cap' l W (hR.bel hb) (hM.bel hb) hlen hcap hll hcap' hpr)
  have hp2 := Lib.hid (fun W hb => rput_calls b bt prev term fixed A cap es B cap' l W (hR.bel hb) (hM.bel hb) hlen hcap hll hcap' hpr)
  have ha1 := Lib.hid (fun W hb => append_calls b bt term ⟨#[120]⟩ A cap es W (hR.bel hb) hlen hcap)
  have ha2 := Lib.hid (fun W hb => rappend_calls b bt term ⟨#[120]⟩ A cap es W (hR.bel hb) hlen hcap)
  have hc1 := Lib.hid (fun W hb => cut_calls b bt prev A cap es W (hR.bel hb) hlen hcap)
  have hc2 := Lib.hid (fun W hb => rcut_calls b bt prev A cap es W (hR.bel hb) hlen hcap)
  rw [← ho1] at hp1 hp2
  rw [← ho2] at ha1 ha2
  rw [← ho3, ← htm] at hc1 hc2
  have hL1 : (o1.getD []).length ≤ 9223372036854775807 := by
    rcases o1 with _ | out
    · simp
    · have := (Tr.chk_rim (Tr.put_chk ho1.symm)).2.2.2.2.2.1
      simp only [Option.getD_some]; omega
  have hL2 : (o2.getD []).length ≤ 9223372036854775807 := by
    rw [ho2]
    split
    · unfold Tr.with_
      split
      · simp; omega
      · simp
    · simp
  have hL3 : (o3.getD []).length ≤ 9223372036854775807 := by
    rw [ho3]
    split
    · simp; omega
    · simp
  have hS := Lib.hid ((SW.nil w).new 24 #[.int .i64 b, .int .i64 bt, .slice A es.length cap] w.heap.size rfl)
  have HL1 := Lib.hid hL1
  have HL2 := Lib.hid hL2
  have HL3 := Lib.hid hL3
  clear ho1 ho2 ho3 htm hR hM hL1 hL2 hL3
  go_enter Try.func6, Try.ntmps6
  go_wp2_with fail
  refine (trail_awake _).mono ?_
  rintro e w0 ⟨rfl, hb0⟩
  have hs0 := Lib.hid (show SW w [(w.heap.size, 24, #[.int .i64 b, .int .i64 bt, .slice A es.length cap])] _ from hS.out.bel hb0)
  have c0 := (hs0.out.at_ 0 rfl).cells
  clear hb0 hS
  go_wp2_with fail
  refine (hp1.out _ hs0.out.1).mono ?_
  rintro e w1 ⟨⟨v, rfl, hv⟩, hb1⟩
  obtain ⟨A1, c1, rfl, r1, q1⟩ := resT_p hv
  have hs1 := Lib.hid (hs0.out.bel hb1)
  have k1 := (hs1.out.at_ 0 rfl).cells
  have hs2 := Lib.hid (show SW w [(w.heap.size, 24, #[.int .i64 b, .int .i64 bt, .slice A es.length cap]), (w1.heap.size, 24, #[.int .i64 (px b o1), .int .i64 (px bt o1), .slice A1 (o1.getD []).length c1])] _ from hs1.out.new 24 #[.int .i64 (px b o1), .int .i64 (px bt o1), .slice A1 (o1.getD []).length c1] w1.heap.size rfl)
  have r2 := Lib.hid (r1.bel (bel_new (Below.refl _ _) (.cells #[.int .i64 (px b o1), .int .i64 (px bt o1), .slice A1 (o1.getD []).length c1] 24)))
  have n1 := (hs1.out.at_ 0 rfl).lt
  have n1' : w.heap.size ≠ w1.heap.size := by omega
  have kk := (hs2.out.at_ 0 rfl).cells
  clear hb1 hs0 c0 hv r1 q1 hp1
  go_wp2_with fail
  refine (hp2.out _ hs2.out.1).mono ?_
  rintro e w3 ⟨⟨v, rfl, hv⟩, hb3⟩
  obtain ⟨A2, c2, rfl, r3⟩ := resW_p hv
  generalize hgA : w1.heap.size = gA at *
  have hs3 := Lib.hid (hs2.out.bel hb3)
  have hs4 := Lib.hid (show SW w [(w.heap.size, 24, #[.int .i64 b, .int .i64 bt, .slice A es.length cap]), (gA, 24, #[.int .i64 (px b o1), .int .i64 (px bt o1), .slice A1 (o1.getD []).length c1]), (w3.heap.size, 24, #[.int .i64 (px b o1), .int .i64 (px bt o1), .slice A2 (o1.getD []).length c2])] _ from hs3.out.new 24 #[.int .i64 (px b o1), .int .i64 (px bt o1), .slice A2 (o1.getD []).length c2] w3.heap.size rfl)
  have r4 := Lib.hid ((r2.out.bel hb3).bel (bel_new (Below.refl _ _) (.cells #[.int .i64 (px b o1), .int .i64 (px bt o1), .slice A2 (o1.getD []).length c2] 24)))
  have r5 := Lib.hid (r3.bel (bel_new (Below.refl _ _) (.cells #[.int .i64 (px b o1), .int .i64 (px bt o1), .slice A2 (o1.getD []).length c2] 24)))
  have k3 := (hs3.out.at_ 1 rfl).cells
  have n3 := (hs3.out.at_ 1 rfl).lt
  have n3' : gA ≠ w3.heap.size := by omega
  have kA := (hs4.out.at_ 1 rfl).cells
  have kB := (hs4.out.at_ 2 rfl).cells
  have hx1 : (o1.isSome != o1.isSome) = false := by simp
  have hsm := Lib.hid (same_calls (px b o1) (px bt o1) (px b o1) (px bt o1) A1 A2 c1 c2 _ _ _ r4.out r5.out HL1.out HL1.out)
  rw [dec_t ⟨rfl, rfl, rfl⟩] at hsm
  clear hb3 hs2 hv r3 r2 hp2 k1 kk hs1
  generalize o1.isSome = s1 at *
  cases s1
  all_goals
    go_wp2_with fail
    refine hsm.out.mono ?_
    rintro e w5 ⟨rfl, hb5⟩
    generalize w3.heap.size = gB at *
    have hs5 := Lib.hid (hs4.out.bel hb5)
    have kc := (hs5.out.at_ 0 rfl).cells
    have nB := (hs5.out.at_ 2 rfl).lt
    have nn0 : w.heap.size ≠ w5.heap.size := by omega
    have hsC := Lib.hid (show SW w [(w.heap.size, 24, #[.int .i64 b, .int .i64 bt, .slice A es.length cap]), (gA, 24, #[.int .i64 (px b o1), .int .i64 (px bt o1), .slice A1 (o1.getD []).length c1]), (gB, 24, #[.int .i64 (px b o1), .int .i64 (px bt o1), .slice A2 (o1.getD []).length c2]), (w5.heap.size, 32, #[.int .i64 term, .string ⟨#[120]⟩])] _ from hs5.out.new 32 #[.int .i64 term, .string ⟨#[120]⟩] w5.heap.size rfl)
    have kC := (hsC.out.at_ 0 rfl).cells
    clear hb5 hs4 hs3 r4 r5 k3 kA kB hsm
    go_wp2_with fail
    generalize w5.alloc (.cells #[.int .i64 term, .string ⟨#[120]⟩] 32) = wC at *
    generalize w5.heap.size = gE at *
    clear kc hs5
    refine (ha1.out _ hsC.out.1).mono ?_
    rintro e wD ⟨⟨v, rfl, hv⟩, hbD⟩
    obtain ⟨A23, c23, rfl, rD, qD⟩ := resT_p hv
    have hsD := Lib.hid (hsC.out.bel hbD)
    have mA := (hsC.out.at_ 1 rfl).lt
    have mB := (hsC.out.at_ 2 rfl).lt
    have fA := (hsD.out.at_ 1 rfl).free
    have cA := (hsD.out.at_ 1 rfl).cells
    have hsF := Lib.hid (show SW w [(w.heap.size, 24, #[.int .i64 b, .int .i64 bt, .slice A es.length cap]), (gA, 24, #[.int .i64 (px b o2), .int .i64 (px bt o2), .slice A23 (o2.getD []).length c23]), (gB, 24, #[.int .i64 (px b o1), .int .i64 (px bt o1), .slice A2 (o1.getD []).length c2]), (gE, 32, #[.int .i64 term, .string ⟨#[120]⟩])] _ from sw_put3i 1 (x := px b o2) (y := px bt o2) (v := (.slice A23 (o2.getD []).length c23)) hsD.out rfl (fun j z hj hz => by rcases j with _ | _ | _ | _ | j <;> first | (exact absurd rfl hj) | (injection hz with hz; subst hz; simp only; omega) | (cases hz)) (by omega))
    have rF := Lib.hid (put3_rd (g := gA) (b := px b o2) (bt := px bt o2) (v := (.slice A23 (o2.getD []).length c23)) rD (fun g off sp e => by have := qD g off sp e; omega))
    simp only [put3] at hsF rF
    have kF := (hsF.out.at_ 0 rfl).cells
    have eF := (hsF.out.at_ 3 rfl).cells
    have QD := Lib.hid qD
    clear hbD hv rD hsC qD ha1 kC
    go_wp2_with fail
    generalize ((wD.setCell ⟨gA, 0, none⟩ (.int .i64 (px b o2))).setCell ⟨gA, 1, none⟩ (.int .i64 (px bt o2))).setCell ⟨gA, 2, none⟩ (.slice A23 (o2.getD []).length c23) = wF at *
    clear fA cA hsD
    refine (ha2.out _ hsF.out.1).mono ?_
    rintro e wG ⟨⟨v, rfl, hv⟩, hbG⟩
    obtain ⟨A24, c24, rfl, rG, qG⟩ := resT_p hv
    have hsG := Lib.hid (hsF.out.bel hbG)
    have mB2 := (hsF.out.at_ 2 rfl).lt
    have fB := (hsG.out.at_ 2 rfl).free
    have cB := (hsG.out.at_ 2 rfl).cells
    have hsH := Lib.hid (show SW w [(w.heap.size, 24, #[.int .i64 b, .int .i64 bt, .slice A es.length cap]), (gA, 24, #[.int .i64 (px b o2), .int .i64 (px bt o2), .slice A23 (o2.getD []).length c23]), (gB, 24, #[.int .i64 (px b o2), .int .i64 (px bt o2), .slice A24 (o2.getD []).length c24]), (gE, 32, #[.int .i64 term, .string ⟨#[120]⟩])] _ from sw_put3i 2 (x := px b o2) (y := px bt o2) (v := (.slice A24 (o2.getD []).length c24)) hsG.out rfl (fun j z hj hz => by rcases j with _ | _ | _ | _ | j <;> first | (exact absurd rfl hj) | (injection hz with hz; subst hz; simp only; omega) | (cases hz)) (by omega))
    have rH4 := Lib.hid (put3_rd (g := gB) (b := px b o2) (bt := px bt o2) (v := (.slice A24 (o2.getD []).length c24)) rG (fun g off sp e => by have := qG g off sp e; omega))
    have rH3 := Lib.hid (put3_rd (g := gB) (b := px b o2) (bt := px bt o2) (v := (.slice A24 (o2.getD []).length c24)) (rF.out.bel hbG) (fun g off sp e => by have := QD.out g off sp e; omega))
    simp only [put3] at hsH rH4 rH3
    have kA := (hsH.out.at_ 1 rfl).cells
    have kB := (hsH.out.at_ 2 rfl).cells
    have hsm := Lib.hid (same_calls (px b o2) (px bt o2) (px b o2) (px bt o2) A23 A24 c23 c24 _ _ _ rH3.out rH4.out HL2.out HL2.out)
    rw [dec_t ⟨rfl, rfl, rfl⟩] at hsm
    clear hbG hv rG hsF rF qG kF eF ha2 mA mB QD
    generalize o2.isSome = s2 at *
    cases s2
    all_goals
      go_wp2_with fail
      generalize ((wG.setCell ⟨gB, 0, none⟩ (.int .i64 (px b o2))).setCell ⟨gB, 1, none⟩ (.int .i64 (px bt o2))).setCell ⟨gB, 2, none⟩ (.slice A24 (o2.getD []).length c24) = wH at *
      clear fB cB hsG rH3 rH4
      refine hsm.out.mono ?_
      rintro e wI ⟨rfl, hbI⟩
      have hsC := Lib.hid (hsH.out.bel hbI)
      have kC := (hsC.out.at_ 0 rfl).cells
      clear hbI hsH kA kB hsm mB2
      go_wp2_with fail
      refine (hc1.out _ hsC.out.1).mono ?_
      rintro e wD ⟨⟨v, rfl, hv⟩, hbD⟩
      obtain ⟨A33, c33, rfl, rD, qD⟩ := resT_p hv
      have hsD := Lib.hid (hsC.out.bel hbD)
      have mA := (hsC.out.at_ 1 rfl).lt
      have mB := (hsC.out.at_ 2 rfl).lt
      have fA := (hsD.out.at_ 1 rfl).free
      have cA := (hsD.out.at_ 1 rfl).cells
      have hsF := Lib.hid (show SW w [(w.heap.size, 24, #[.int .i64 b, .int .i64 bt, .slice A es.length cap]), (gA, 24, #[.int .i64 (px prev o3), .int .i64 (px tm o3), .slice A33 (o3.getD []).length c33]), (gB, 24, #[.int .i64 (px b o2), .int .i64 (px bt o2), .slice A24 (o2.getD []).length c24]), (gE, 32, #[.int .i64 term, .string ⟨#[120]⟩])] _ from sw_put3i 1 (x := px prev o3) (y := px tm o3) (v := (.slice A33 (o3.getD []).length c33)) hsD.out rfl (fun j z hj hz => by rcases j with _ | _ | _ | _ | j <;> first | (exact absurd rfl hj) | (injection hz with hz; subst hz; simp only; omega) | (cases hz)) (by omega))
      have rF := Lib.hid (put3_rd (g := gA) (b := px prev o3) (bt := px tm o3) (v := (.slice A33 (o3.getD []).length c33)) rD (fun g off sp e => by have := qD g off sp e; omega))
      simp only [put3] at hsF rF
      have kF := (hsF.out.at_ 0 rfl).cells
      have eF := (hsF.out.at_ 3 rfl).cells
      have QD := Lib.hid qD
      clear hbD hv rD hsC qD hc1 kC
      go_wp2_with fail
      generalize ((wD.setCell ⟨gA, 0, none⟩ (.int .i64 (px prev o3))).setCell ⟨gA, 1, none⟩ (.int .i64 (px tm o3))).setCell ⟨gA, 2, none⟩ (.slice A33 (o3.getD []).length c33) = wF at *
      clear fA cA hsD
      refine (hc2.out _ hsF.out.1).mono ?_
      rintro e wG ⟨⟨v, rfl, hv⟩, hbG⟩
      obtain ⟨A34, c34, rfl, rG, qG⟩ := resT_p hv
      have hsG := Lib.hid (hsF.out.bel hbG)
      have mB2 := (hsF.out.at_ 2 rfl).lt
      have fB := (hsG.out.at_ 2 rfl).free
      have cB := (hsG.out.at_ 2 rfl).cells
      have hsH := Lib.hid (show SW w [(w.heap.size, 24, #[.int .i64 b, .int .i64 bt, .slice A es.length cap]), (gA, 24, #[.int .i64 (px prev o3), .int .i64 (px tm o3), .slice A33 (o3.getD []).length c33]), (gB, 24, #[.int .i64 (px prev o3), .int .i64 (px tm o3), .slice A34 (o3.getD []).length c34]), (gE, 32, #[.int .i64 term, .string ⟨#[120]⟩])] _ from sw_put3i 2 (x := px prev o3) (y := px tm o3) (v := (.slice A34 (o3.getD []).length c34)) hsG.out rfl (fun j z hj hz => by rcases j with _ | _ | _ | _ | j <;> first | (exact absurd rfl hj) | (injection hz with hz; subst hz; simp only; omega) | (cases hz)) (by omega))
      have rH4 := Lib.hid (put3_rd (g := gB) (b := px prev o3) (bt := px tm o3) (v := (.slice A34 (o3.getD []).length c34)) rG (fun g off sp e => by have := qG g off sp e; omega))
      have rH3 := Lib.hid (put3_rd (g := gB) (b := px prev o3) (bt := px tm o3) (v := (.slice A34 (o3.getD []).length c34)) (rF.out.bel hbG) (fun g off sp e => by have := QD.out g off sp e; omega))
      simp only [put3] at hsH rH4 rH3
      have kA := (hsH.out.at_ 1 rfl).cells
      have kB := (hsH.out.at_ 2 rfl).cells
      have hsm := Lib.hid (same_calls (px prev o3) (px tm o3) (px prev o3) (px tm o3) A33 A34 c33 c34 _ _ _ rH3.out rH4.out HL3.out HL3.out)
      rw [dec_t ⟨rfl, rfl, rfl⟩] at hsm
      clear hbG hv rG hsF rF qG kF eF hc2 mA mB QD
      generalize o3.isSome = s3 at *
      cases s3
      all_goals
        go_wp2_with fail
        generalize ((wG.setCell ⟨gB, 0, none⟩ (.int .i64 (px prev o3))).setCell ⟨gB, 1, none⟩ (.int .i64 (px tm o3))).setCell ⟨gB, 2, none⟩ (.slice A34 (o3.getD []).length c34) = wH at *
        clear fB cB hsG rH3 rH4
        refine hsm.out.mono ?_
        rintro e wI ⟨rfl, hbI⟩
        have hsC := Lib.hid (hsH.out.bel hbI)
        have kC := (hsC.out.at_ 0 rfl).cells
        clear hbI hsH kA kB hsm mB2
        go_wp2_with fail
        go_ret
        exact ⟨rfl, hsC.out.1⟩

set_option maxRecDepth 100000 in
theorem walks {H : Type} (enc : TypeId × Value → H) : Walks enc Try.prog 6 Try.f6 := by
  intro W base args ds ps hval hA hwt
  rw [Try.params6] at hA hval hwt
  obtain ⟨v0, vs0, d0, ds0, p0, q0, hargs, rfl, rfl, h0, r0⟩ := trodAll_cons hA
  obtain ⟨v1, vs1, d1, ds1, p1, q1, rfl, rfl, rfl, h1, r1⟩ := trodAll_cons r0
  obtain ⟨v2, vs2, d2, ds2, p2, q2, rfl, rfl, rfl, h2, r2⟩ := trodAll_cons r1
  obtain ⟨v3, vs3, d3, ds3, p3, q3, rfl, rfl, rfl, h3, r3⟩ := trodAll_cons r2
  obtain ⟨v4, vs4, d4, ds4, p4, q4, rfl, rfl, rfl, h4, r4⟩ := trodAll_cons r3
  obtain ⟨rfl, rfl, rfl⟩ := trodAll_nil r4
  obtain rfl : args = #[v0, v1, v2, v3, v4] := by cases args; simp_all
  obtain ⟨b, bt, A, es, cap, rfl, _, _, c1, c2, hR⟩ := trail_arg (hval 0 24 v0 rfl rfl) h0 (weightsEach_at (i := 0) hwt rfl rfl)
  obtain ⟨prev, rfl, rfl, rfl, hp⟩ := open_int Try.underlying2 (hval 1 2 v1 rfl rfl) h1
  obtain ⟨term, rfl, rfl, rfl, _⟩ := open_int Try.underlying2 (hval 2 2 v2 rfl rfl) h2
  obtain ⟨B, l, cap', rfl, c1', c2', hM⟩ := entries_arg2 (hval 3 22 v3 rfl rfl) h3 (weightsEach_at (i := 3) hwt rfl rfl)
  obtain ⟨fixed, rfl, rfl, rfl, _⟩ := open_int Try.underlying2 (hval 4 2 v4 rfl rfl) h4
  exact walk b bt prev term fixed A cap es B cap' l W hR hM (by omega) c1 (by omega) c1' (by simp [Lit.wf, IntKind.min, IntKind.max, IntKind.signed, IntKind.bits] at hp; omega)

set_option maxRecDepth 100000 in
theorem lifted (os : Os) (started : os.Started) (H : Type) (enc : TypeId × Value → H) :
    ReturnsInHanded {} Try.checked os 6 .any (Rows.trailPutsSpec.pre6 enc Try.prog Try.f6 Rows.trailPutsRow.domain false) (Rows.trailPutsSpec.post enc Try.prog Try.f6 false true false false) :=
  frame_lifted (C := Try.checked) own started (by kernel_rfl) Try.func6
    (ChangeSpec.witness6 (enc := enc) (C := Try.checked) false ⟨#[], #[.agg #[.int .i64 0, .int .i64 0, .slice none 0 0], .int .i64 0, .int .i64 0, .slice none 0 0, .int .i64 0], []⟩ 8 (by kernel_rfl) (by kernel_rfl) (by kernel_rfl) (by kernel_rfl)) laidOut (by kernel_rfl) rfl (by rfl) Try.underlying4
    (fun ds h => match ds, h with | [d0, d1, d2, d3, d4], _ => ⟨rfl, rfl, rfl⟩) (walks enc)

theorem over : Rows.trailPutsRow.holds Try.pinned (OpenSpec.ofChange Rows.trailPutsSpec) :=
  OpenClaim.holds_of_wide 6 Try.f6 rfl rfl rfl rfl rfl rfl rfl ⟨rfl, rfl, rfl, rfl, rfl⟩ rfl rfl rfl rfl rfl (by kernel_rfl) Try.func6 (by kernel_rfl)
    (of_decide_eq_true (by kernel_rfl)) (by unfold Func.isWrapper; first | (rw [if_pos (by decide +kernel)]; kernel_rfl) | (rw [if_neg (by decide +kernel)]; exact ⟨rfl, rfl⟩))
    (fun os started H enc _ => lifted os started H enc)

/-- the statement -/
theorem proved : Rows.TrailPutsSaid := over
end Go.Proofs.Ytdladjgdhnkkcaa.lawTrailPuts
