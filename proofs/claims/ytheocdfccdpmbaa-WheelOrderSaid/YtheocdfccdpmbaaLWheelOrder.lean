/-
  WheelOrder: the order in which items are put in does not matter.
  No condition.
-/
import Derived.Test.YtheocdfccdpmbaaWhG
import Derived.BigQuiet
import Derived.Deep.Cut
import Derived.Deep.RegionHeld3
import Derived.Deep.DeepCutAuto
namespace Go.Proofs.Ytheocdfccdpmbaa.lawWheelOrder
open Go.ChangeShapes Go.WideShapes Go.ChangeAt Go.RowKit Go.Deep
set_option linter.unusedVariables false
set_option linter.unusedSimpArgs false
set_option maxHeartbeats 8000000

/-- no two of the first n have one id -/
def Diff (xs : List Itm) (n : Nat) : Prop := ∀ i j, i < n → j < i → (xs.getD j default).id ≠ (xs.getD i default).id
theorem Diff.pair {xs : List Itm} (h : Diff xs xs.length) : xs.Pairwise (fun a b => a.id ≠ b.id) := List.pairwise_iff_getElem.2 fun i j hi hj hij => by
  have := h j i hj hij
  simpa [List.getD, hi, hj] using this
theorem rev_get {xs : List Itm} {k : Nat} (hk : k < xs.length) : xs.reverse.getD k default = xs.getD (xs.length - 1 - k) default := by
  have : xs.length - 1 - k < xs.length := by omega
  simp [List.getD, hk, List.getElem?_reverse hk, this]

set_option maxRecDepth 100000 in
theorem walk (now tt : Int) (A : Option Addr) (cap : Nat) (xs : List Itm) (w : World) (hR : Hid (RdL layW w A xs)) (hG : Hid (∀ i, i < xs.length → B64 (xs.getD i default).id ∧ B64 (xs.getD i default).at_)) (hlx : xs.length ≤ 20000000000000) :
    Calls Try.prog 4 #[.int .i64 now, .slice A xs.length cap, .int .i64 tt] w fun e w' => e = .returned (.bool true) ∧ Below w.heap.size w w' := by
  have HLX := Lib.hid hlx
  clear hlx
  go_enter Try.func4, Try.ntmps4
  go_wp2_with fail
  refine (wheel_awake w).mono ?_
  rintro e w0 ⟨rfl, hb0⟩
  have HB0 := Lib.hid hb0
  have HR0 := Lib.hid (hR.out.bel hb0)
  clear hb0 hR
  by_cases c100 : 100 < xs.length
  · have hc1 : (100 : Int) < (xs.length : Int) := by omega
    go_wp2_with fail
    go_ret
    exact ⟨rfl, HB0.out⟩
  have hc1 : ¬ (100 : Int) < (xs.length : Int) := by omega
  have HL := Lib.hid c100
  clear c100
  have HD0 : Hid (Diff xs 0) := Lib.hid (fun i j h _ => absurd h (Nat.not_lt_zero _))
  have HZ := Lib.hid (Below.refl w0.heap.size w0)
  go_wp2_with fail
  go_loopg [7, 8] xs.length (fun n v7 v8 W => ∃ (k : Nat), v7 = .int .i64 k ∧ n + k = xs.length ∧ Hid (Diff xs k) ∧ Hid (Below w0.heap.size w0 W))
  case atStart => exact ⟨0, rfl, rfl, HD0, HZ⟩
  case round =>
    clear HD0 HZ
    obtain ⟨k, rfl, hnk, HD, HI⟩ := hrel
    have HN := Lib.hid hnk
    by_cases hk1 : k < xs.length
    · have hki : (k : Int) < (xs.length : Int) := by omega
      obtain ⟨n, rfl⟩ : ∃ n, gk = n + 1 := ⟨gk - 1, by omega⟩
      have HK1 := Lib.hid hk1
      have HE0 : Hid (∀ j, j < 0 → (xs.getD j default).id ≠ (xs.getD k default).id) := Lib.hid (fun j h => absurd h (Nat.not_lt_zero _))
      clear hk1 hnk
      go_wp2_with fail
      go_loopg [8] k (fun n v8 W => ∃ (m : Nat), v8 = .int .i64 m ∧ n + m = k ∧ Hid (∀ j, j < m → (xs.getD j default).id ≠ (xs.getD k default).id) ∧ Hid (Below w0.heap.size w0 W))
      case atStart => exact ⟨0, rfl, rfl, HE0, HI⟩
      case round =>
        clear HE0 HI
        obtain ⟨m, rfl, hnm, HE, HI⟩ := hrel
        have HNM := Lib.hid hnm
        by_cases hm1 : m < k
        · have hmi : (m : Int) < (k : Int) := by omega
          obtain ⟨n2, rfl⟩ : ∃ n2, gk = n2 + 1 := ⟨gk - 1, by omega⟩
          obtain ⟨b, off, hbA, hlt, e0, -⟩ := HR0.out.itm m (by have := HK1.out; omega)
          obtain ⟨b2, off2, hbA2, -, e2, -⟩ := HR0.out.itm k HK1.out
          obtain ⟨rfl, rfl⟩ : b2 = b ∧ off2 = off := by
            rw [hbA] at hbA2
            injection hbA2 with h2
            injection h2 with h3 h4
            exact ⟨h3.symm, h4.symm⟩
          have f0 : wr.cell? ⟨b2, off2 + m * 2, none⟩ = some (.int .i64 (xs.getD m default).id) := (HI.out.cell (p := ⟨b2, off2 + m * 2, none⟩) hlt).trans e0
          have f2 : wr.cell? ⟨b2, off2 + k * 2, none⟩ = some (.int .i64 (xs.getD k default).id) := (HI.out.cell (p := ⟨b2, off2 + k * 2, none⟩) hlt).trans e2
          have hwm : IntKind.i64.wrap (m : Int) = (m : Int) := IntWalk.i64_in _ (by have := HLX.out; omega)
          have hwk : IntKind.i64.wrap (k : Int) = (k : Int) := IntWalk.i64_in _ (by have := HLX.out; omega)
          have HAE := Lib.hid hbA
          have hml : (m : Int) < (xs.length : Int) := by omega
          clear e0 e2 hbA hbA2 hlt hnm
          rw [HAE.out]
          obtain ⟨x, hx⟩ : ∃ x, x = (xs.getD m default).id := ⟨_, rfl⟩
          obtain ⟨y, hy⟩ : ∃ y, y = (xs.getD k default).id := ⟨_, rfl⟩
          rw [← hx] at f0
          rw [← hy] at f2
          have HX := Lib.hid hx
          have HY := Lib.hid hy
          clear hx hy
          by_cases hxy : x = y
          · have hb : (x == y) = true := by simp [hxy]
            clear hxy
            go_wp2_with fail
            go_quiet (fail)
            go_wp2_with fail
            go_ret
            exact ⟨rfl, bel_tr HB0.out (bel_drewN HI.out nq)⟩
          · have hb : (x == y) = false := by simp [hxy]
            have HXY := Lib.hid hxy
            clear hxy
            go_wp2_with fail
            go_quiet (fail)
            have HI2 := Lib.hid (bel_drewN HI.out nq)
            go_wp2_with fail
            rw [← HAE.out]
            go_roundg n2
            case rel => exact ⟨m + 1, by go_num, by have := HNM.out; omega, Lib.hid (fun j hj => by
              rcases Nat.lt_succ_iff_lt_or_eq.1 hj with h | rfl
              · exact HE.out j h
              · rw [← HX.out, ← HY.out]; exact HXY.out), HI2⟩
            case measure => omega
        · have hmi : ¬ (m : Int) < (k : Int) := by omega
          have HDN : Hid (Diff xs (k + 1)) := Lib.hid (fun i j hi hj => by
            rcases Nat.lt_succ_iff_lt_or_eq.1 hi with h | rfl
            · exact HD.out i j h hj
            · exact HE.out j (by have := HNM.out; omega))
          go_wp2_with fail
          go_roundg n
          case rel => exact ⟨k + 1, by go_num, by have := HN.out; omega, HDN, HI⟩
          case measure => omega
    · have hki : ¬ (k : Int) < (xs.length : Int) := by omega
      have HDD : Hid (Diff xs xs.length) := Lib.hid (fun i j hi hj => HD.out i j (by omega) hj)
      clear HD hnk HN hk1
      go_upto_region 13 with (fail)
      have HB1 := Lib.hid (bel_tr HB0.out HI.out)
      have HR1 := Lib.hid (HR0.out.bel HI.out)
      clear HI HR0 HB0
      generalize wr = w1 at *
      by_cases c : 0 ≤ now ∧ now ≤ 226157759
      case neg =>
        go_wp2_with fail
        refine (new_no now c w1).mono ?_
        rintro e w2 ⟨rfl, rfl⟩
        go_wp2_with fail
        refine (new_no now c w1).mono ?_
        rintro e w2 ⟨rfl, rfl⟩
        go_wp2_with fail
        go_ret
        exact ⟨rfl, HB1.out⟩
      go_wp2_with fail
      refine (new_ok now c.1 c.2 w1).mono ?_
      rintro e w2 ⟨g, mb, rfl, h2⟩
      have H2 := Lib.hid (Stt.of_one h2)
      clear h2
      go_wp2_with fail
      refine (new_ok now c.1 c.2 w2).mono ?_
      rintro e w3 ⟨g2, mb2, rfl, h3⟩
      have H3 := Lib.hid (H2.out.put h3)
      have HC := Lib.hid c
      clear h3 H2 c hki
      go_wp2_with fail
      go_loopg [13] xs.length (fun n v13 W => ∃ (k : Nat), v13 = .int .i64 k ∧ n + k = xs.length ∧ Hid (Stt w1 ⟨g, mb, now, Wh.insAll now [] (xs.take k)⟩ (some ⟨g2, mb2, now, Wh.insAll now [] (xs.reverse.take k)⟩) [] W))
      case atStart => exact ⟨0, rfl, rfl, H3⟩
      case round =>
        clear H3
        obtain ⟨k, rfl, hnk, HI⟩ := hrel
        have HN := Lib.hid hnk
        by_cases hk1 : k < xs.length
        · have hki : (k : Int) < (xs.length : Int) := by omega
          obtain ⟨n, rfl⟩ : ∃ n, gk = n + 1 := ⟨gk - 1, by omega⟩
          obtain ⟨b, off, hbA, hlt, e0, e1⟩ := HR1.out.itm k hk1
          obtain ⟨r, hr⟩ : ∃ r, r = xs.length - 1 - k := ⟨_, rfl⟩
          have hrl : r < xs.length := by omega
          obtain ⟨b2, off2, hbA2, -, e2, e3⟩ := HR1.out.itm r hrl
          obtain ⟨rfl, rfl⟩ : b2 = b ∧ off2 = off := by
            rw [hbA] at hbA2
            injection hbA2 with h2
            injection h2 with h3 h4
            exact ⟨h3.symm, h4.symm⟩
          obtain ⟨hg0, hg1⟩ := hG.out k hk1
          obtain ⟨hg2, hg3⟩ := hG.out r hrl
          have HSN : Hid (Wh.insS now (Wh.insAll now [] (xs.take k)) (xs.getD k default) = Wh.insAll now [] (xs.take (k + 1))) := Lib.hid (insS_all hk1)
          have HSR : Hid (Wh.insS now (Wh.insAll now [] (xs.reverse.take k)) (xs.getD r default) = Wh.insAll now [] (xs.reverse.take (k + 1))) := Lib.hid (by
            have := insS_all (now := now) (S := []) (xs := xs.reverse) (k := k) (by simpa using hk1)
            rwa [rev_get hk1, ← hr] at this)
          obtain ⟨⟨id, a⟩, hit⟩ : ∃ x, x = xs.getD k default := ⟨_, rfl⟩
          rw [← hit] at e0 e1 hg0 hg1 HSN
          obtain ⟨⟨id2, a2⟩, hit2⟩ : ∃ x, x = xs.getD r default := ⟨_, rfl⟩
          rw [← hit2] at e2 e3 hg2 hg3 HSR
          have E2 : Hid (w1.cell? ⟨b2, off2 + r * 2, none⟩ = some (.int .i64 id2)) := Lib.hid e2
          have E3 : Hid (w1.cell? ⟨b2, off2 + r * 2 + 1, none⟩ = some (.int .i64 a2)) := Lib.hid e3
          have HLT := Lib.hid hlt
          have hid0 : -9223372036854775808 ≤ id := hg0.1
          have hid1 : id ≤ 9223372036854775807 := hg0.2
          have hid2 : -9223372036854775808 ≤ id2 := hg2.1
          have hid3 : id2 ≤ 9223372036854775807 := hg2.2
          have f0 : wr.cell? ⟨b2, off2 + k * 2, none⟩ = some (.int .i64 id) := HI.out.cell hlt e0
          have f1 : wr.cell? ⟨b2, off2 + k * 2 + 1, none⟩ = some (.int .i64 a) := HI.out.cell hlt e1
          have hwm : IntKind.i64.wrap (k : Int) = (k : Int) := IntWalk.i64_in _ (by omega)
          have hwr : (xs.length : Int) - 1 - (k : Int) = (r : Int) := by omega
          have hwr1 : (xs.length : Int) - 1 = ((xs.length - 1 : Nat) : Int) := by omega
          have hww : IntKind.i64.wrap ((xs.length : Int) - 1) = (xs.length : Int) - 1 := IntWalk.i64_in _ (by omega)
          have hww2 : IntKind.i64.wrap (r : Int) = (r : Int) := IntWalk.i64_in _ (by omega)
          have hri : (r : Int) < (xs.length : Int) := by omega
          have HAE := Lib.hid hbA
          clear e0 e1 e2 e3 hg0 hg1 hg2 hg3 hit hit2 hlt hbA hbA2 hnk hr hwr1
          rw [HAE.out]
          go_wp2_with fail
          refine (insert_st HI ⟨id, a⟩ hid0 hid1).mono ?_
          rintro e w5 ⟨rfl, h5⟩
          have H5 := Lib.hid h5.swap
          have f0 : w5.cell? ⟨b2, off2 + r * 2, none⟩ = some (.int .i64 id2) := H5.out.cell HLT.out E2.out
          have f1 : w5.cell? ⟨b2, off2 + r * 2 + 1, none⟩ = some (.int .i64 a2) := H5.out.cell HLT.out E3.out
          clear h5
          generalize Wh.insE now (Wh.insAll now [] (xs.take k)) ⟨id, a⟩ = z1
          go_wp2_with fail
          refine (insert_st H5 ⟨id2, a2⟩ hid2 hid3).mono ?_
          rintro e w6 ⟨rfl, h6⟩
          have HJ3 : Hid (Stt w1 ⟨g, mb, now, Wh.insAll now [] (xs.take (k + 1))⟩ (some ⟨g2, mb2, now, Wh.insAll now [] (xs.reverse.take (k + 1))⟩) [] w6) := Lib.hid (by
            have := h6.swap
            rwa [HSN.out, HSR.out] at this)
          clear h6 f0 f1
          go_wp2_with fail
          rw [← HAE.out]
          go_roundg n
          case rel => exact ⟨k + 1, by go_num, by have := HN.out; omega, HJ3⟩
          case measure => omega
        · have hki : ¬ (k : Int) < (xs.length : Int) := by omega
          obtain rfl : k = xs.length := by omega
          have hs := Wh.insAll_reverse (now := now) HDD.out.pair (by have := HL.out; omega)
          have h4 := HI.out
          rw [show xs.reverse.take xs.length = xs.reverse from List.take_of_length_le (by simp), List.take_length, hs] at h4
          have H4 := Lib.hid h4
          clear h4 hs HI hnk HN
          generalize Wh.insAll now [] xs = S at *
          by_cases ca : advE now tt = 0
          case neg =>
            go_wp2_with fail
            refine (adv_no H4 tt ca).mono ?_
            rintro e w21 ⟨rfl, h21⟩
            have H21 := Lib.hid h21.swap
            clear h21
            go_wp2_with fail
            refine (adv_no H21 tt ca).mono ?_
            rintro e w22 ⟨rfl, h22⟩
            have H22 := Lib.hid h22.swap
            clear h22 H21
            go_wp2_with fail
            refine (items_calls none none 0 0 [] w22 (Lib.hid (RdL.nil _ _)) (Lib.hid (RdL.nil _ _)) (by simp)).mono ?_
            rintro e w23 ⟨rfl, hb23⟩
            have H23 := Lib.hid (H22.out.bel hb23)
            clear hb23 H22
            go_wp2_with fail
            refine (waiting_st H23).mono ?_
            rintro e w24 ⟨A4, cp4, rfl, h24⟩
            have H24 := Lib.hid h24.swap
            clear h24 H23
            go_wp2_with fail
            refine (waiting_st H24).mono ?_
            rintro e w25 ⟨A5, cp5, rfl, h25⟩
            have h250 : Stt w1 ⟨g2, mb2, now, S⟩ (some ⟨g, mb, now, S⟩) [(.slice A5 S.length cp5, S), (.slice A4 S.length cp4, S)] w25 := h25
            have H25 := Lib.hid h250
            have HS5 : Hid (S.length ≤ 1000000) := Lib.hid (by have := h250.len; simp only at this; omega)
            clear h25 h250 H24
            go_wp2_with fail
            refine (items_calls A4 A5 cp4 cp5 S w25 (Lib.hid (H25.out.rd (A := A4) (n := S.length) (c := cp4) (l := S) (by simp))) (Lib.hid (H25.out.rd (A := A5) (n := S.length) (c := cp5) (l := S) (by simp))) HS5.out).mono ?_
            rintro e w26 ⟨rfl, hb26⟩
            have H26 := Lib.hid (H25.out.bel hb26)
            clear hb26 H25
            go_wp2_with fail
            go_ret
            exact ⟨rfl, bel_tr HB1.out H26.out.below⟩
          have HS4 : Hid (S.length ≤ 4096) := Lib.hid (by have := H4.out.len; simp only at this; exact this)
          go_wp2_with fail
          refine (adv_ok H4 tt ca).mono ?_
          rintro e w21 ⟨A1, cp1, rfl, h21⟩
          have H21 : Hid (Stt w1 ⟨g2, mb2, now, S⟩ (some ⟨g, mb, tt, Wh.past tt S⟩) [(.slice A1 (Wh.upto tt S).length cp1, Wh.upto tt S)] w21) := Lib.hid h21.swap
          clear h21
          go_wp2_with fail
          refine (adv_ok H21 tt ca).mono ?_
          rintro e w22 ⟨A2, cp2, rfl, h22⟩
          have H22 : Hid (Stt w1 ⟨g2, mb2, tt, Wh.past tt S⟩ (some ⟨g, mb, tt, Wh.past tt S⟩) [(.slice A2 (Wh.upto tt S).length cp2, Wh.upto tt S), (.slice A1 (Wh.upto tt S).length cp1, Wh.upto tt S)] w22) := Lib.hid h22
          clear h22 H21
          have HU4 : Hid ((Wh.upto tt S).length ≤ 1000000) := Lib.hid (by have := upto_len tt S; have := HS4.out; omega)
          have HP4 : Hid ((Wh.past tt S).length ≤ 1000000) := Lib.hid (by have := Wh.split_len tt S; have := HS4.out; omega)
          go_wp2_with fail
          refine (items_calls A1 A2 cp1 cp2 (Wh.upto tt S) w22 (Lib.hid (H22.out.rd (A := A1) (n := (Wh.upto tt S).length) (c := cp1) (l := Wh.upto tt S) (by simp))) (Lib.hid (H22.out.rd (A := A2) (n := (Wh.upto tt S).length) (c := cp2) (l := Wh.upto tt S) (by simp))) HU4.out).mono ?_
          rintro e w23 ⟨rfl, hb23⟩
          have H23 := Lib.hid (((H22.out.bel hb23).drop (List.nil_sublist _)).swap)
          clear hb23 H22
          go_wp2_with fail
          refine (waiting_st H23).mono ?_
          rintro e w24 ⟨A4, cp4, rfl, h24⟩
          have H24 := Lib.hid h24.swap
          clear h24 H23
          go_wp2_with fail
          refine (waiting_st H24).mono ?_
          rintro e w25 ⟨A5, cp5, rfl, h25⟩
          have h250 : Stt w1 ⟨g2, mb2, tt, Wh.past tt S⟩ (some ⟨g, mb, tt, Wh.past tt S⟩) [(.slice A5 (Wh.past tt S).length cp5, Wh.past tt S), (.slice A4 (Wh.past tt S).length cp4, Wh.past tt S)] w25 := h25
          have H25 := Lib.hid h250
          clear h25 h250 H24
          go_wp2_with fail
          refine (items_calls A4 A5 cp4 cp5 (Wh.past tt S) w25 (Lib.hid (H25.out.rd (A := A4) (n := (Wh.past tt S).length) (c := cp4) (l := Wh.past tt S) (by simp))) (Lib.hid (H25.out.rd (A := A5) (n := (Wh.past tt S).length) (c := cp5) (l := Wh.past tt S) (by simp))) HP4.out).mono ?_
          rintro e w26 ⟨rfl, hb26⟩
          have H26 := Lib.hid (H25.out.bel hb26)
          clear hb26 H25
          go_wp2_with fail
          go_ret
          exact ⟨rfl, bel_tr HB1.out H26.out.below⟩


set_option maxRecDepth 100000 in
theorem walks {H : Type} (enc : TypeId × Value → H) : Walks enc Try.prog 4 Try.f4 := by
  intro W base args ds ps hval hA hwt
  rw [Try.params4] at hA hval hwt
  obtain ⟨v0, vs0, d0, ds0, p0, q0, hargs, rfl, rfl, h0, r0⟩ := trodAll_cons hA
  obtain ⟨v1, vs1, d1, ds1, p1, q1, rfl, rfl, rfl, h1, r1⟩ := trodAll_cons r0
  obtain ⟨v2, vs2, d2, ds2, p2, q2, rfl, rfl, rfl, h2, r2⟩ := trodAll_cons r1
  obtain ⟨rfl, rfl, rfl⟩ := trodAll_nil r2
  obtain rfl : args = #[v0, v1, v2] := by cases args; simp_all
  obtain ⟨n, rfl, rfl, rfl, _⟩ := open_int Try.underlying2 (hval 0 2 v0 rfl rfl) h0
  obtain ⟨A, xs, cap, rfl, a1, b1, c1, g1⟩ := items_arg (hval 1 22 v1 rfl rfl) h1 (weightsEach_at (i := 1) hwt rfl rfl)
  obtain ⟨t, rfl, rfl, rfl, _⟩ := open_int Try.underlying2 (hval 2 2 v2 rfl rfl) h2
  exact walk n t A cap xs W (Lib.hid c1) (Lib.hid g1) (by omega)

set_option maxRecDepth 100000 in
theorem lifted (os : Os) (started : os.Started) (H : Type) (enc : TypeId × Value → H) :
    ReturnsInHanded {} Try.checked os 4 .any (Rows.wheelOrderSpec.pre6 enc Try.prog Try.f4 Rows.wheelOrderRow.domain false) (Rows.wheelOrderSpec.post enc Try.prog Try.f4 false true false false) :=
  frame_lifted (C := Try.checked) own started (by kernel_rfl) Try.func4
    (ChangeSpec.witness6 (enc := enc) (C := Try.checked) false ⟨#[], #[.int .i64 0, .slice none 0 0, .int .i64 0], []⟩ 8 (by kernel_rfl) (by kernel_rfl) (by kernel_rfl) (by kernel_rfl)) laidOut (by kernel_rfl) rfl (by rfl) Try.underlying4
    (fun ds h => match ds, h with | [d0, d1, d2], _ => ⟨rfl, rfl, rfl⟩) (walks enc)

theorem over : Rows.wheelOrderRow.holds Try.pinned (OpenSpec.ofChange Rows.wheelOrderSpec) :=
  OpenClaim.holds_of_wide 4 Try.f4 rfl rfl rfl rfl rfl rfl rfl ⟨rfl, rfl, rfl, rfl, rfl⟩ rfl rfl rfl rfl rfl (by kernel_rfl) Try.func4 (by kernel_rfl)
    (of_decide_eq_true (by kernel_rfl)) (by unfold Func.isWrapper; first | (rw [if_pos (by decide +kernel)]; kernel_rfl) | (rw [if_neg (by decide +kernel)]; exact ⟨rfl, rfl⟩))
    (fun os started H enc _ => lifted os started H enc)

/-- the statement -/
theorem proved : Rows.WheelOrderSaid := over
end Go.Proofs.Ytheocdfccdpmbaa.lawWheelOrder
