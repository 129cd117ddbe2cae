/-
  Frames and fields: the reference's Frame, Unframe and Fields.
  Conditions: the bytes can be read.
-/
import Derived.Test.YtkmhjfileiabeaaCodeR
import Derived.Laws.StructEq
namespace Go.Proofs.Ytkmhjfileiabeaa
open Go.RowKit
set_option linter.unusedVariables false
set_option linter.unusedSimpArgs false

namespace Code
theorem take4 (xs : List Nat) (E : Nat) (h : E + 4 ≤ xs.length) : (xs.drop E).take 4 = [xs.getD E 0, xs.getD (E + 1) 0, xs.getD (E + 2) 0, xs.getD (E + 3) 0] := by
  have g : ∀ k, k + 1 ≤ xs.length → xs.drop k = xs.getD k 0 :: xs.drop (k + 1) := fun k hk => by
    rw [List.drop_eq_getElem_cons (by omega)]; simp [List.getD, show k < xs.length by omega]
  rw [g E (by omega), g (E + 1) (by omega), g (E + 1 + 1) (by omega), g (E + 1 + 1 + 1) (by omega)]
  rfl
theorem le4_iff (M a b c d : Nat) (hM : M < 2 ^ 32) (ha : a < 256) (hb : b < 256) (hc : c < 256) (hd : d < 256) : le4 M = [a, b, c, d] ↔ M = a + b * 256 + c * 65536 + d * 16777216 := by
  simp only [le4, List.cons.injEq, and_true]
  constructor
  · rintro ⟨h1, h2, h3, h4⟩; omega
  · intro h; omega
theorem unf_alt {xs : List Nat} {v sz : Nat} (hx : ∀ x ∈ xs, x < 256) (ht : tk 0 0 xs = (v, sz, 0)) (hl : sz + v + 4 ≤ xs.length) :
    frm ((xs.drop sz).take v) = xs.take (sz + v + 4) ↔ Crc.more 0 (xs.take (sz + v)) = s4 xs (sz + v) := by
  obtain ⟨e1, e2, e3⟩ := tk_inv0 hx ht
  have hpl : ((xs.drop sz).take v).length = v := by rw [List.length_take, List.length_drop]; omega
  have hE : xs.take (sz + v) = vb v ++ (xs.drop sz).take v := by
    conv => lhs; rw [e1]
    rw [List.take_append, List.take_of_length_le (by omega), show sz + v - (vb v).length = v from by omega]
  have h4 : xs.take (sz + v + 4) = xs.take (sz + v) ++ (xs.drop (sz + v)).take 4 := by rw [List.take_add]
  have hxe : ∀ x ∈ xs.take (sz + v), x < 256 := fun x h => hx x (List.mem_of_mem_take h)
  have hg : ∀ i, i < xs.length → xs.getD i 0 < 256 := fun i hi => by
    simp only [List.getD, List.getElem?_eq_getElem hi, Option.getD_some]
    exact hx _ (List.getElem_mem hi)
  unfold frm
  rw [hpl, ← hE, h4, take4 xs (sz + v) hl]
  constructor
  · intro h
    have := List.append_cancel_left h
    exact (le4_iff _ _ _ _ _ (more_lt _ hxe) (hg _ (by omega)) (hg _ (by omega)) (hg _ (by omega)) (hg _ (by omega))).1 this
  · intro h
    rw [(le4_iff _ _ _ _ _ (more_lt _ hxe) (hg _ (by omega)) (hg _ (by omega)) (hg _ (by omega)) (hg _ (by omega))).2 h]
theorem le4_step (s j : Nat) (hj : j < 4) : (le4 s).take (j + 1) = (le4 s).take j ++ [s / 256 ^ j % 256] := by
  rcases j with _ | _ | _ | _ | j
  · simp [le4]
  · simp [le4]
  · simp [le4]
  · simp [le4]
  · omega
end Code
theorem toList_ne {s u : ByteArray} (h : s ≠ u) : (s.toList == u.toList) = false := by
  rw [beq_eq_false_iff_ne]
  intro e
  rw [ByteArray.toList_eq, ByteArray.toList_eq] at e
  apply h
  obtain ⟨x⟩ := s
  obtain ⟨y⟩ := u
  exact congrArg ByteArray.mk (Array.toList_inj.1 e)
theorem lawFrm_lt (xs : List Nat) (h : ∀ x ∈ xs, x < 256) : ∀ x ∈ Code.frm xs, x < 256 := fun x hx => by
  rcases List.mem_append.1 hx with hx | hx
  · rcases List.mem_append.1 hx with hx | hx
    · exact Code.vb_lt _ x hx
    · exact h x hx
  · exact le4_lt _ x hx

set_option maxRecDepth 20000 in
set_option maxHeartbeats 4000000 in
theorem rframe_calls (A : Option Addr) (cap : Nat) (xs : List Nat) (w : World) (hR : Hid (Rd8 w A xs)) (hlen : xs.length ≤ 9223372036854775807) :
    Calls Try.prog 29 #[.slice A xs.length cap] w fun e w' => (∃ v, e = .returned v ∧ ResB w.heap.size (if xs.length ≤ 65536 then some (Code.frm xs) else none) v w') ∧ Below w.heap.size w w' := by
  obtain ⟨o, ho⟩ : ∃ o, o = (if xs.length ≤ 65536 then some (Code.frm xs) else none) := ⟨_, rfl⟩
  rw [← ho]
  by_cases h : xs.length ≤ 65536
  · have hi : ¬ (65536 : Int) < (xs.length : Int) := by omega
    rw [if_pos h] at ho
    have HO := Lib.hid ho
    have HL := Lib.hid h
    have q2 : IntKind.u64.wrap (xs.length : Int) = (xs.length : Int) := by simp [IntKind.wrap, IntKind.bits, IntKind.signed]; omega
    have hvl : (Code.vb xs.length).length ≤ 3 := Code.vb_len 2 xs.length (by omega)
    have HVL := Lib.hid hvl
    have hyl : ∀ x ∈ Code.vb xs.length ++ xs, x < 256 := fun x hx => by
      rcases List.mem_append.1 hx with h | h
      · exact Code.vb_lt _ x h
      · exact hR.out.lt x h
    have HS := Lib.hid (Code.more_lt _ hyl)
    clear ho h hvl hyl
    go_enter Try.func29, Try.ntmps29
    go_wp2_with fail
    refine (rput_calls w.heap.size _ [] xs.length _ (Lib.hid (by have := HL.out; omega)) (Own8.nil _ _) (Nat.le_refl _) (Lib.hid (by simp))).mono ?_
    rintro e w1 ⟨⟨v1, rfl, ho1⟩, hb1⟩
    rw [List.nil_append] at ho1
    have HB1 := Lib.hid hb1
    have HR1 := Lib.hid (hR.out.bel hb1)
    clear hb1
    go_wp2_with (first
      | (at_builtin
         refine wpList_app8 rfl (.tmp 14) (.tmp 15) rfl w.heap.size _ _ rfl ho1 A cap xs rfl HR1.out (by have := HL.out; have := HVL.out; omega) HB1.out.size ?_
         intro v2 w2 ho2 hg2 _
         have hb2 := Lib.hid (Own8.grown ho1 HB1.out HB1.out.size hg2)
         clear hg2))
    have HF : Hid (o = some ((Code.vb xs.length ++ xs) ++ Code.le4 (Crc.more 0 (Code.vb xs.length ++ xs)))) := HO
    have hyl2 : (Code.vb xs.length ++ xs).length ≤ 65539 := by have := HL.out; have := HVL.out; rw [List.length_append]; omega
    generalize Code.vb xs.length ++ xs = ys at *
    have HO2 := Lib.hid ho2
    obtain ⟨A2, cap2, rfl, hc2, hR2, hO2⟩ := ho2.form
    have HYL := Lib.hid hyl2
    clear ho1 ho2 hO2
    refine (rsum_calls A2 cap2 ys w2 (Lib.hid hR2) (by omega)).mono ?_
    rintro e w3 ⟨rfl, rfl⟩
    clear hR2
    have hs := HS.out
    generalize hsum : Crc.more 0 ys = s at *
    have HSUM := Lib.hid hsum
    clear hsum
    go_wp2_with fail
    go_loopg [4, 5, 6] 4 (fun g v4 v5 v6 W => Below w.heap.size w W ∧ ∃ j : Nat, v6 = .int .i64 j ∧ j + g = 4 ∧ ∃ t : Nat, v5 = .int .u32 t ∧ t < 4294967296 ∧ Hid (t = s / 256 ^ j ∧ Own8 W w.heap.size v4 (ys ++ (Code.le4 s).take j)))
    case atStart => exact ⟨hb2.out, 0, rfl, by omega, s, rfl, by omega, Lib.hid ⟨by simp, by simpa using HO2.out⟩⟩
    case round =>
      obtain ⟨hb, j, rfl, hjg, t, rfl, htl, HI⟩ := hrel
      by_cases hj : j < 4
      · have hji : (j : Int) < 4 := by omega
        have hw8 : Rd8 (wr.alloc (.cells #[.int .u8 ((t : Int) % 256)] 5)) (some ⟨wr.heap.size, 0, none⟩) [t % 256] :=
          rd8_new wr _ _ [t % 256] (by simp; omega) _ (by simp)
        have HW8 := Lib.hid hw8
        have HOW := Lib.hid HI.out.2
        have hll : (ys ++ (Code.le4 s).take j).length ≤ 65543 := by have := HYL.out; simp [Code.le4]; omega
        have HLL := Lib.hid hll
        have HTE := Lib.hid HI.out.1
        have hst : (ys ++ (Code.le4 s).take j) ++ [t % 256] = ys ++ (Code.le4 s).take (j + 1) := by rw [Code.le4_step s j hj, ← HI.out.1, List.append_assoc]
        have HST := Lib.hid hst
        clear hw8 hll hst HI
        go_wp2_with (first
          | (at_builtin
             refine wpList_app8 rfl (.tmp 23) (.tmp 26) rfl w.heap.size _ _ rfl (HOW.out.al _) (some ⟨wr.heap.size, 0, none⟩) 1 [t % 256] rfl HW8.out (by have := HLL.out; simp only [List.length_cons, List.length_nil]; omega) (bel_new hb _).size ?_
             intro v5 w5 ho5 hg5 _
             have hb5 := Lib.hid (Own8.grown (HOW.out.al _) (bel_new hb _) (bel_new hb _).size hg5)))
        go_roundg (gk - 1)
        case rel => exact ⟨hb5.out, j + 1, by go_num, by omega, t / 256, by push_cast; rfl, by omega, Lib.hid ⟨by rw [HTE.out, Nat.pow_succ, Nat.div_div_eq_div_mul], by rw [← HST.out]; exact ho5⟩⟩
        case measure => omega
      · have hji : ¬ (j : Int) < 4 := by omega
        have hj4 : j = 4 := by omega
        subst hj4
        have HOW := Lib.hid HI.out.2
        clear HI
        go_wp2_with fail
        go_ret2
        rw [HF.out]
        exact ⟨⟨_, rfl, ⟨_, rfl, HOW.out⟩⟩, hb⟩
  · have hi : (65536 : Int) < (xs.length : Int) := by omega
    rw [if_neg h] at ho
    subst ho
    go_enter Try.func29, Try.ntmps29
    go_wp2_with fail
    go_ret2
    exact ⟨⟨_, rfl, rfl⟩, Below.refl _ _⟩

set_option maxRecDepth 20000 in
set_option maxHeartbeats 4000000 in
theorem runframe_calls (A : Option Addr) (cap : Nat) (xs : List Nat) (w : World) (hR : Hid (Rd8 w A xs)) (hlen : xs.length ≤ cap) (hcap : cap ≤ 9223372036854775807) (hsm : xs.length ≤ 4611686018427387904) :
    Calls Try.prog 24 #[.slice A xs.length cap] w fun e w' => (∃ v, e = .returned (.tuple #[v, .int .i64 (Code.unf xs).2.1, .int .i64 (Code.unf xs).2.2]) ∧ Own8 w' w.heap.size v (Code.unf xs).1) ∧ Below w.heap.size w w' := by
  obtain ⟨r, hr⟩ : ∃ r, r = Code.unf xs := ⟨_, rfl⟩
  have hnum := number_calls A cap xs 0 w hR hsm (Nat.zero_le _)
  rw [List.drop_zero] at hnum
  rw [← hr]
  obtain ⟨v, sz, e, ht⟩ : ∃ v sz e, Code.tk 0 0 xs = (v, sz, e) := ⟨_, _, _, rfl⟩
  unfold Code.unf at hr
  rw [ht] at hr
  simp only at hr
  have HT := Lib.hid ht
  rw [ht] at hnum
  by_cases he : e = 0
  · subst he
    simp only [ite_true, Nat.zero_add] at hnum
    have HNUM := Lib.hid hnum
    clear hnum
    rw [if_neg (by simp)] at hr
    have hx : ∀ x ∈ xs, x < 256 := hR.out.lt
    obtain ⟨i1, i2, i3⟩ := Code.tk_inv0 hx ht
    have hvp := Code.vb_pos v
    have hl1 : sz ≤ xs.length := by rw [i2, i1]; simp
    have hs10 : sz ≤ 10 := by rw [i2]; exact Code.vb_len 9 v (by omega)
    have hl0 : 0 < xs.length := by omega
    obtain ⟨b, off, rfl, hbl⟩ := hR.out.some hl0
    clear i1 i2 hvp ht
    by_cases h6 : 65536 < v
    · rw [if_pos h6] at hr
      have HR2 := Lib.hid hr
      have h6i : (65536 : Int) < (v : Int) := by omega
      clear hr
      go_enter Try.func24, Try.ntmps24
      go_wp2_with fail
      refine HNUM.out.mono ?_
      rintro e w2 ⟨rfl, rfl⟩
      have hb2 := Below.refl w.heap.size w
      have HB := Lib.hid hb2
      clear hb2
      go_wp2_with fail
      go_ret3
      rw [HR2.out]
      exact ⟨⟨_, rfl, Own8.nil _ _⟩, HB.out⟩
    · rw [if_neg h6] at hr
      have h6i : ¬ (65536 : Int) < (v : Int) := by omega
      obtain ⟨E, hE⟩ : ∃ E, E = sz + v := ⟨_, rfl⟩
      have hEi : (sz : Int) + (v : Int) = (E : Int) := by omega
      rw [← hE] at hr
      by_cases h4 : xs.length < E + 4
      · rw [if_pos h4] at hr
        have HR2 := Lib.hid hr
        have h4i : (xs.length : Int) < (E : Int) + 4 := by omega
        clear hr hE
        go_enter Try.func24, Try.ntmps24
        go_wp2_with fail
        refine HNUM.out.mono ?_
        rintro e w2 ⟨rfl, rfl⟩
        have hb2 := Below.refl w.heap.size w
        have HB := Lib.hid hb2
        clear hb2
        go_wp2_with fail
        go_ret3
        rw [HR2.out]
        exact ⟨⟨_, rfl, Own8.nil _ _⟩, HB.out⟩
      · rw [if_neg h4] at hr
        have h4i : ¬ (xs.length : Int) < (E : Int) + 4 := by omega
        have HR2 := Lib.hid hr
        clear hr
        have halt := Code.unf_alt hx HT.out (by omega : sz + v + 4 ≤ xs.length)
        rw [← hE] at halt
        have HALT := Lib.hid halt
        have hlc : ((xs.drop sz).take v).length = v := by rw [List.length_take, List.length_drop]; omega
        have HLC := Lib.hid hlc
        have hplt : ∀ x ∈ (xs.drop sz).take v, x < 256 := fun x h => hx x (List.mem_of_mem_drop (List.mem_of_mem_take h))
        have HPLT := Lib.hid hplt
        have hvN : E - sz = v := by omega
        have HVN := Lib.hid hvN
        have hvE : (E : Int) - (sz : Int) = (v : Int) := by omega
        have hsE : (sz : Int) ≤ (E : Int) := by omega
        have hEc : (E : Int) ≤ (cap : Int) := by omega
        have hcs : ¬ sz = cap := by omega
        have HX := Lib.hid hx
        clear hE halt hlc hplt hx hvN
        go_enter Try.func24, Try.ntmps24
        go_wp2_with fail
        refine HNUM.out.mono ?_
        rintro e w2 ⟨rfl, rfl⟩
        go_wp2_with fail
        have hfr := rframe_calls (some ⟨b, off + sz, none⟩) (cap - sz) ((xs.drop sz).take v) w (Lib.hid ((hR.out.drop sz).take v)) (by rw [HLC.out]; omega)
        rw [HLC.out, if_pos (by omega)] at hfr
        rw [HVN.out]
        refine hfr.mono ?_
        rintro e w3 ⟨⟨v3, rfl, u3, rfl, ho3⟩, hb3⟩
        obtain ⟨A3, c3, rfl, _, hR3, _⟩ := ho3.form
        have HB3 := Lib.hid hb3
        have HTL : Hid ((xs.take (E + 4)).length = E + 4) := Lib.hid (by rw [List.length_take]; omega)
        have hcv1 : ∀ n, (convert 22 9 (.slice A3 (Code.frm ((xs.drop sz).take v)).length c3)).run Try.prog (w3.drewN n) = .ok (.string (bs (Code.frm ((xs.drop sz).take v)))) (w3.drewN n) := fun n => conv8 (hR3.bel (bel_drewN (Below.refl _ _) n)) c3
        have hcv2 : ∀ n, (convert 22 9 (.slice (some ⟨b, off, none⟩) (E + 4) cap)).run Try.prog (w3.drewN n) = .ok (.string (bs (xs.take (E + 4)))) (w3.drewN n) := fun n => by
          have := conv8 ((hR.out.bel (bel_drewN hb3 n)).take (E + 4)) cap
          rwa [HTL.out] at this
        have e4 : IntKind.i64.wrap ((E : Int) + 4) = ((E + 4 : Nat) : Int) := by rw [IntKind.wrap_i64]; omega
        have e5 : ((E + 4 : Nat) : Int) ≤ (cap : Int) := by omega
        have hfl := Lib.hid (lawFrm_lt _ HPLT.out)
        clear ho3 hb3 hR3 hfr
        by_cases hq : Crc.more 0 (xs.take E) = Code.s4 xs E
        · have HR3 : Hid (r = ((xs.drop sz).take v, E + 4, 0)) := Lib.hid (by rw [HR2.out, if_neg (by simp [hq])])
          rw [HALT.out.2 hq] at hcv1 ⊢
          generalize bs (xs.take (E + 4)) = S at *
          generalize (xs.take (E + 4)).length = LL at *
          clear hq HR2 HALT
          go_wp2_with fail
          go_quiet (fail)
          have hbW := Lib.hid (bel_drewN HB3.out nq)
          have hRW := Lib.hid (((hR.out.bel hbW.out).drop sz).take v)
          clear hcv1 hcv2
          generalize w3.drewN nq = W at *
          have hbn := Lib.hid (bel_new (Below.refl W.heap.size W) (.cells #[] 5))
          have HLIT := Lib.hid (Own8.lit W W.heap.size (Nat.le_refl _) [] (by simp) (by simp) #[] rfl)
          go_wp2_with (first
            | (at_builtin
               refine wpList_app8 rfl (.tmp 47) (.tmp 51) rfl W.heap.size _ [] rfl HLIT.out (some ⟨b, off + sz, none⟩) (cap - sz) ((xs.drop sz).take v) (by rw [HLC.out, ← HVN.out]; rfl) (hRW.out.bel hbn.out) (by rw [HLC.out]; simp; omega) (by simp) ?_
               intro v5 w5 ho5 hg5 _
               have hb5 := Lib.hid (Own8.grown HLIT.out hbn.out (by simp) hg5)
               rw [List.nil_append] at ho5))
          go_ret3
          rw [HR3.out]
          exact ⟨⟨_, rfl, ho5.base hbW.out.size⟩, bel_tr hbW.out hb5.out⟩
        · have HR3 : Hid (r = ([], 0, 22)) := Lib.hid (by rw [HR2.out, if_pos hq])
          have hne : bs (Code.frm ((xs.drop sz).take v)) ≠ bs (xs.take (E + 4)) := fun h => hq (HALT.out.1 (bs_inj hfl.out (fun x hx => HX.out x (List.mem_of_mem_take hx)) h))
          have hnl := toList_ne hne
          generalize bs (xs.take (E + 4)) = S at *
          generalize Code.frm ((xs.drop sz).take v) = fr at *
          generalize bs fr = S2 at *
          clear hq HR2 HALT hne
          go_wp2_with fail
          go_quiet (fail)
          have hbW := Lib.hid (bel_drewN HB3.out nq)
          clear hcv1 hcv2
          go_wp2_with fail
          go_ret3
          rw [HR3.out]
          exact ⟨⟨_, rfl, Own8.nil _ _⟩, hbW.out⟩
  · simp only [if_neg he] at hnum
    have HNUM := Lib.hid hnum
    clear hnum
    rw [if_pos he] at hr
    have HR2 := Lib.hid hr
    have hei : ((e : Int) != 0) = true := by rw [bne_iff_ne]; omega
    clear hr ht
    go_enter Try.func24, Try.ntmps24
    go_wp2_with fail
    refine HNUM.out.mono ?_
    rintro e' w2 ⟨rfl, rfl⟩
    have hb2 := Below.refl w.heap.size w
    have HB := Lib.hid hb2
    clear hb2
    go_wp2_with fail
    go_ret3
    rw [HR2.out]
    exact ⟨⟨_, rfl, Own8.nil _ _⟩, HB.out⟩
end Go.Proofs.Ytkmhjfileiabeaa
