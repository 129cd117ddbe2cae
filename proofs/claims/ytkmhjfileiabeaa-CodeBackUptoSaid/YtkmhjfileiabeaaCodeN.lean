/-
  Frames: the program's Frame.
  Conditions: the bytes can be read.
-/
import Derived.Test.YtkmhjfileiabeaaCodeM
import Derived.Test.YtkmhjfileiabeaaCodeK
import Derived.Test.YtkmhjfileiabeaaCodeJ
import Derived.Lib.SliceRun
import Derived.Lib.EndianBits
import Derived.BigQuiet
import Derived.Deep.RegionHeld3
namespace Go.Proofs.Ytkmhjfileiabeaa
open Go.RowKit
set_option linter.unusedVariables false
set_option linter.unusedSimpArgs false

theorem Own8.only {w w' : World} {base g : Nat} {v : Value} {xs : List Nat} (h : Own8 w base v xs) (hO : Only g w w') (hne : ∀ k, v.ownBlock = some k → k ≠ g) : Own8 w' base v xs := by
  refine ⟨?_, h.2⟩
  rcases h.1.2 with ⟨rfl, e⟩ | ⟨k, cap, cur, rfl, h1, h2, h3⟩
  · exact ⟨h.1.1, .inl ⟨rfl, e⟩⟩
  · refine ⟨h.1.1, .inr ⟨k, cap, cur, rfl, h1, ?_, h3⟩⟩
    have hk : k < w.heap.size := by
      rcases Nat.lt_or_ge k w.heap.size with hl | hl
      · exact hl
      · rw [Array.getElem?_eq_none hl] at h2; cases h2
    rw [hO.block k hk (fun e => hne k rfl (by injection e))]
    exact h2

theorem clone8_calls (A : Option Addr) (cap : Nat) (xs : List Nat) (w : World) (hR : Rd8 w A xs) (hlen : xs.length ≤ 2 ^ 39) :
    Calls Try.prog 35 #[.slice A xs.length cap] w fun e w' => (∃ v, e = .returned v ∧ Own8 w' w.heap.size v xs) ∧ Below w.heap.size w w' := by
  have q22 : ∀ (w : World) (a : Option Addr) (n c n' c' : Nat), (binOp .eql 22 (.slice a n c) (.slice none n' c')).run Try.prog w = .ok (.bool a.isNone) w := fun w a n c n' c' => Lib.run_eql_slice_nil w _ _ a n c n' c' Try.underlying22
  rcases A with _ | a
  · have hn : xs = [] := by
      rcases Nat.eq_zero_or_pos xs.length with h0 | h0
      · exact List.eq_nil_of_length_eq_zero h0
      · obtain ⟨_, _, e, _⟩ := hR 0 h0
        cases e
    subst hn
    simp only [List.length_nil]
    clear hR
    go_enter Try.func35, Try.ntmps35
    go_wp2_with fail
    go_ret
    exact ⟨⟨_, rfl, Own8.nil _ _⟩, Below.refl _ _⟩
  · have hbn : Below w.heap.size w (w.alloc (.cells #[] 5)) := (Below.refl _ _).alloc (Nat.le_refl _) _
    have HR := Lib.hid (hR.bel hbn)
    clear hR
    go_enter Try.func35, Try.ntmps35
    go_wp2_with (first
      | (at_builtin
         refine wpList_app8 rfl (.tmp 5) (.tmp 6) rfl w.heap.size _ [] rfl (Own8.lit w w.heap.size (Nat.le_refl _) [] (by simp) (by simp) #[] rfl) (some a) cap xs rfl HR.out (by simp; omega) (by simp) ?_
         intro v1 w1 ho1 hg1 _
         have hb1 := Lib.hid (Own8.grown (Own8.lit w w.heap.size (Nat.le_refl _) [] (by simp) (by simp) #[] rfl) hbn (by simp) hg1)
         rw [List.nil_append] at ho1
         clear hg1))
    go_ret
    exact ⟨⟨_, rfl, ho1⟩, hb1.out⟩

theorem Own8.base {w : World} {b0 b1 : Nat} {v : Value} {xs : List Nat} (h : Own8 w b1 v xs) (hb : b0 ≤ b1) : Own8 w b0 v xs := by
  refine ⟨?_, h.2⟩
  rcases h.1.2 with ⟨rfl, e⟩ | ⟨k, cap, cur, rfl, h1, h2⟩
  · exact ⟨h.1.1, .inl ⟨rfl, e⟩⟩
  · exact ⟨h.1.1, .inr ⟨k, cap, cur, rfl, Nat.le_trans hb h1, h2⟩⟩
theorem le4_lt (s : Nat) : ∀ x ∈ Code.le4 s, x < 256 := fun x hx => by
  simp only [Code.le4, List.mem_cons, List.not_mem_nil, or_false] at hx
  omega

set_option maxRecDepth 20000 in
set_option maxHeartbeats 4000000 in
theorem frame_calls (A : Option Addr) (cap : Nat) (xs : List Nat) (w : World) (hR : Hid (Rd8 w A xs)) (hlen : xs.length ≤ 9223372036854775807) :
    Calls Try.prog 28 #[.slice A xs.length cap] w fun e w' => (∃ v, e = .returned v ∧ ResB w.heap.size (if xs.length ≤ 65536 then some (Code.frm xs) else none) v w') ∧ Below w.heap.size w w' := by
  obtain ⟨o, ho⟩ : ∃ o, o = (if xs.length ≤ 65536 then some (Code.frm xs) else none) := ⟨_, rfl⟩
  rw [← ho]
  by_cases h : xs.length ≤ 65536
  · have hi : ¬ (65536 : Int) < (xs.length : Int) := by omega
    rw [if_pos h] at ho
    have HO := Lib.hid ho
    have HL := Lib.hid h
    have q2 : IntKind.u64.wrap (xs.length : Int) = (xs.length : Int) := by simp [IntKind.wrap, IntKind.bits, IntKind.signed]; omega
    have hvl : (Code.vb xs.length).length ≤ 3 := Code.vb_len 2 xs.length (by omega)
    have HVL := Lib.hid hvl
    have hyl : ∀ x ∈ Code.vb xs.length ++ xs, x < 256 := fun x hx => by
      rcases List.mem_append.1 hx with h | h
      · exact Code.vb_lt _ x h
      · exact hR.out.lt x h
    have HS := Lib.hid (Code.more_lt _ hyl)
    clear ho h hvl hyl
    go_enter Try.func28, Try.ntmps28
    go_wp2_with fail
    refine (put_calls w.heap.size _ [] xs.length _ (Lib.hid (by have := HL.out; omega)) (Own8.nil _ _) (Nat.le_refl _) (Lib.hid (by simp))).mono ?_
    rintro e w1 ⟨⟨v1, rfl, ho1⟩, hb1⟩
    rw [List.nil_append] at ho1
    have HB1 := Lib.hid hb1
    have HR1 := Lib.hid (hR.out.bel hb1)
    clear hb1
    go_wp2_with (first
      | (at_builtin
         refine wpList_app8 rfl (.tmp 12) (.tmp 13) rfl w.heap.size _ _ rfl ho1 A cap xs rfl HR1.out (by have := HL.out; have := HVL.out; omega) HB1.out.size ?_
         intro v2 w2 ho2 hg2 _
         have hb2 := Lib.hid (Own8.grown ho1 HB1.out HB1.out.size hg2)
         clear hg2))
    have HF : Hid (o = some ((Code.vb xs.length ++ xs) ++ Code.le4 (Crc.more 0 (Code.vb xs.length ++ xs)))) := HO
    have hyl2 : (Code.vb xs.length ++ xs).length ≤ 65539 := by have := HL.out; have := HVL.out; rw [List.length_append]; omega
    generalize Code.vb xs.length ++ xs = ys at *
    have HO2 := Lib.hid ho2
    obtain ⟨A2, cap2, rfl, hc2, hR2, hO2⟩ := ho2.form
    refine (new_calls w2).mono ?_
    rintro e w3 ⟨rfl, rfl⟩
    have HR2 := Lib.hid hR2
    have HYL := Lib.hid hyl2
    clear ho1 ho2 hO2 hR2
    go_wp2_with fail
    refine (sum_calls w2.heap.size A2 cap2 ys _ (new_tab w2) (HR2.out.bel (bel_new (Below.refl _ w2) _)) (HR2.out.off (Nat.le_refl _)) (by omega)).mono ?_
    rintro e w4 ⟨rfl, hO4, _⟩
    have HO4 := Lib.hid ((HO2.out.kept (bel_new (Below.refl _ w2) (.cells tabNew 67))).only hO4 (fun k hk => by have := (HO2.out.1.lt k hk).2; omega))
    have hb4 := Lib.hid (hO4.bel (bel_new hb2.out (.cells tabNew 67)) hb2.out.size)
    have hs := HS.out
    generalize hsum : Crc.more 0 ys = s at *
    have HSUM := Lib.hid hsum
    have hsi : (s : Int) < 4294967296 := by omega
    clear hO4 hs hsum
    have hw8 : Rd8 (w4.alloc (.cells #[.int .u8 ((s : Int) % 256), .int .u8 ((s : Int) / 256 % 256), .int .u8 ((s : Int) / 65536 % 256), .int .u8 ((s : Int) / 16777216)] 5)) (some ⟨w4.heap.size, 0, none⟩) (Code.le4 s) :=
      rd8_new w4 _ _ (Code.le4 s) (le4_lt s) _ (by simp [Code.le4]; omega)
    have HW8 := Lib.hid hw8
    clear hw8
    go_wp2_with (first
      | (at_builtin
         refine wpList_app8 rfl (.tmp 18) (.tmp 30) rfl w.heap.size _ ys rfl (HO4.out.al _) (some ⟨w4.heap.size, 0, none⟩) 4 (Code.le4 s) rfl HW8.out (by have := HYL.out; simp [Code.le4]; omega) (bel_new hb4.out _).size ?_
         intro v5 w5 ho5 hg5 _
         have hb5 := Lib.hid (Own8.grown (HO4.out.al _) (bel_new hb4.out _) (bel_new hb4.out _).size hg5)))
    go_ret2
    rw [HF.out]
    exact ⟨⟨_, rfl, ⟨_, rfl, ho5⟩⟩, hb5.out⟩
  · have hi : (65536 : Int) < (xs.length : Int) := by omega
    rw [if_neg h] at ho
    subst ho
    go_enter Try.func28, Try.ntmps28
    go_wp2_with fail
    go_ret2
    exact ⟨⟨_, rfl, rfl⟩, Below.refl _ _⟩

set_option maxRecDepth 20000 in
set_option maxHeartbeats 4000000 in
theorem unframe_calls (A : Option Addr) (cap : Nat) (xs : List Nat) (w : World) (hR : Hid (Rd8 w A xs)) (hlen : xs.length ≤ cap) (hcap : cap ≤ 9223372036854775807) :
    Calls Try.prog 23 #[.slice A xs.length cap] w fun e w' => (∃ v, e = .returned (.tuple #[v, .int .i64 (Code.unf xs).2.1, .int .i64 (Code.unf xs).2.2]) ∧ Own8 w' w.heap.size v (Code.unf xs).1) ∧ Below w.heap.size w w' := by
  obtain ⟨r, hr⟩ : ∃ r, r = Code.unf xs := ⟨_, rfl⟩
  rw [← hr]
  obtain ⟨v, sz, e, ht⟩ : ∃ v sz e, Code.tk 0 0 xs = (v, sz, e) := ⟨_, _, _, rfl⟩
  unfold Code.unf at hr
  rw [ht] at hr
  simp only at hr
  have HT := Lib.hid ht
  by_cases he : e = 0
  · subst he
    rw [if_neg (by simp)] at hr
    have hx : ∀ x ∈ xs, x < 256 := hR.out.lt
    obtain ⟨i1, i2, i3⟩ := Code.tk_inv0 hx ht
    have hvp := Code.vb_pos v
    have hl1 : sz ≤ xs.length := by rw [i2, i1]; simp
    have hs10 : sz ≤ 10 := by rw [i2]; exact Code.vb_len 9 v (by omega)
    have hl0 : 0 < xs.length := by omega
    obtain ⟨b, off, rfl, hbl⟩ := hR.out.some hl0
    clear i1 i2 hvp ht
    by_cases h6 : 65536 < v
    · rw [if_pos h6] at hr
      have HR2 := Lib.hid hr
      have h6i : (65536 : Int) < (v : Int) := by omega
      clear hr
      go_enter Try.func23, Try.ntmps23
      go_wp2_with fail
      refine (take_calls _ cap xs _ hR (by omega)).mono ?_
      rintro e w2 ⟨rfl, hb2⟩
      rw [HT.out]
      have HB := Lib.hid hb2
      clear hb2
      go_wp2_with fail
      go_ret3
      rw [HR2.out]
      exact ⟨⟨_, rfl, Own8.nil _ _⟩, HB.out⟩
    · rw [if_neg h6] at hr
      have h6i : ¬ (65536 : Int) < (v : Int) := by omega
      obtain ⟨E, hE⟩ : ∃ E, E = sz + v := ⟨_, rfl⟩
      have hEi : (sz : Int) + (v : Int) = (E : Int) := by omega
      rw [← hE] at hr
      by_cases h4 : xs.length < E + 4
      · rw [if_pos h4] at hr
        have HR2 := Lib.hid hr
        have h4i : (xs.length : Int) < (E : Int) + 4 := by omega
        clear hr hE
        go_enter Try.func23, Try.ntmps23
        go_wp2_with fail
        refine (take_calls _ cap xs _ hR (by omega)).mono ?_
        rintro e w2 ⟨rfl, hb2⟩
        rw [HT.out]
        have HB := Lib.hid hb2
        clear hb2
        go_wp2_with fail
        go_ret3
        rw [HR2.out]
        exact ⟨⟨_, rfl, Own8.nil _ _⟩, HB.out⟩
      · rw [if_neg h4] at hr
        have h4i : ¬ (xs.length : Int) < (E : Int) + 4 := by omega
        have HR2 := Lib.hid hr
        clear hr
        have hz : ∀ i, i < 4 → xs.getD (E + i) 0 < 256 ∧ ∀ w2, Below w.heap.size w w2 → w2.cell? ⟨b, off + (E + i), none⟩ = some (.int .u8 (xs.getD (E + i) 0 : Nat)) := fun i hi => by
          obtain ⟨b', off', e, h1, h2, h3⟩ := hR.out (E + i) (by omega)
          injection e with e
          injection e with e1 e2 _
          subst e1; subst e2
          exact ⟨h2, fun w2 hb => (hb.cell (p := ⟨b, off + (E + i), none⟩) h1).trans h3⟩
        obtain ⟨z0, y0⟩ := hz 0 (by omega)
        obtain ⟨z1, y1⟩ := hz 1 (by omega)
        obtain ⟨z2, y2⟩ := hz 2 (by omega)
        obtain ⟨z3, y3⟩ := hz 3 (by omega)
        have hs4 : Code.s4 xs E = xs.getD (E + 0) 0 + xs.getD (E + 1) 0 * 256 + xs.getD (E + 2) 0 * 65536 + xs.getD (E + 3) 0 * 16777216 := rfl
        generalize xs.getD (E + 0) 0 = a0 at *
        generalize xs.getD (E + 1) 0 = a1 at *
        generalize xs.getD (E + 2) 0 = a2 at *
        generalize xs.getD (E + 3) 0 = a3 at *
        have HS4 := Lib.hid hs4
        have HY0 := Lib.hid y0
        have HY1 := Lib.hid y1
        have HY2 := Lib.hid y2
        have HY3 := Lib.hid y3
        clear hz hs4 y0 y1 y2 y3
        go_enter Try.func23, Try.ntmps23
        go_wp2_with fail
        refine (take_calls _ cap xs _ hR (by omega)).mono ?_
        rintro e w2 ⟨rfl, hb2⟩
        rw [HT.out]
        have c0 := HY0.out w2 hb2
        rw [Nat.add_zero] at c0
        have c1 := HY1.out w2 hb2
        have c2 := HY2.out w2 hb2
        have c3 := HY3.out w2 hb2
        have HB := Lib.hid hb2
        have e1 : IntKind.i64.wrap ((E : Int) + 1) = ((E + 1 : Nat) : Int) := by rw [IntKind.wrap_i64]; omega
        have e2 : IntKind.i64.wrap ((E : Int) + 2) = ((E + 2 : Nat) : Int) := by rw [IntKind.wrap_i64]; omega
        have e3 : IntKind.i64.wrap ((E : Int) + 3) = ((E + 3 : Nat) : Int) := by rw [IntKind.wrap_i64]; omega
        have g0 : (E : Int) < (xs.length : Int) := by omega
        have g1 : ((E + 1 : Nat) : Int) < (xs.length : Int) := by omega
        have g2 : ((E + 2 : Nat) : Int) < (xs.length : Int) := by omega
        have g3 : ((E + 3 : Nat) : Int) < (xs.length : Int) := by omega
        have HE := Lib.hid hE
        have HOR : Hid (bits .or .u32 (bits .or .u32 (bits .or .u32 (a0 : Int) ((a1 : Int) * 256)) ((a2 : Int) * 65536)) ((a3 : Int) * 16777216) = ((Code.s4 xs E : Nat) : Int)) := Lib.hid (by
          rw [u32_or8 (a0 : Int) ((a1 : Int) * 256) (by omega) (by omega) (by omega) (by omega) (by omega), u32_or16 ((a0 : Int) + (a1 : Int) * 256) ((a2 : Int) * 65536) (by omega) (by omega) (by omega) (by omega) (by omega), u32_or24 ((a0 : Int) + (a1 : Int) * 256 + (a2 : Int) * 65536) ((a3 : Int) * 16777216) (by omega) (by omega) (by omega) (by omega) (by omega), HS4.out]
          omega)
        clear hb2 hE
        go_wp2_with fail
        go_quiet (fail)
        go_wp2_with fail
        rw [HOR.out]
        have hbW := Lib.hid (bel_drewN HB.out nq)
        generalize w2.drewN nq = W at *
        have hsumc := sum_calls W.heap.size (some ⟨b, off, none⟩) cap (xs.take E) (W.drew.alloc (.cells tabNew 67)) (new_tab W.drew) ((hR.out.bel hbW.out).bel (bel_new (Below.refl _ W).drew _) |>.take E) (fun _ b' off' e => by
          injection e with e; injection e with e; have := hbW.out.size; omega) (by rw [List.length_take]; omega)
        have htl : (xs.take E).length = E := by rw [List.length_take]; omega
        rw [htl] at hsumc
        have HSC := Lib.hid hsumc
        have gE : (E : Int) ≤ (cap : Int) := by omega
        have hbT := Lib.hid (bel_new hbW.out.drew (.cells tabNew 67))
        clear hsumc htl c0 c1 c2 c3
        go_region_held3 (fun _ => True) (trivial)
          (first
          | (go_at_call 15
             refine (new_calls _).mono ?_
             rintro e w3 ⟨rfl, rfl⟩)
          | (go_at_call 18
             refine HSC.out.mono ?_
             rintro e w4 ⟨rfl, hO4, _⟩
             have hb4 := Lib.hid (hO4.bel hbT.out hbW.out.size)))
        by_cases hq : Crc.more 0 (xs.take E) = Code.s4 xs E
        · have HR3 : Hid (r = ((xs.drop sz).take v, E + 4, 0)) := Lib.hid (by rw [HR2.out, if_neg (by simp [hq])])
          have HQ := Lib.hid hq
          rw [HQ.out]
          have hRc := (hR.out.bel hb4.out).drop sz |>.take v
          have hlc : ((xs.drop sz).take v).length = v := by rw [List.length_take, List.length_drop]; have := HE.out; omega
          have hvE : (E : Int) - (sz : Int) = (v : Int) := by omega
          have hvN : E - sz = v := by have := HE.out; omega
          have hsE : (sz : Int) ≤ (E : Int) := by omega
          have hcs : ¬ sz = cap := by have := HE.out; omega
          have HLC := Lib.hid hlc
          have HVN := Lib.hid hvN
          clear hq hlc hvN HR2 HSC
          generalize Code.s4 xs E = z at *
          go_wp2_with fail
          have hcl := clone8_calls (some ⟨b, off + sz, none⟩) (cap - sz) ((xs.drop sz).take v) w4 hRc (by rw [HLC.out]; omega)
          rw [HLC.out] at hcl
          rw [HVN.out]
          refine hcl.mono ?_
          rintro e w5 ⟨⟨v5, rfl, ho5⟩, hb5⟩
          have HB5 := Lib.hid (bel_tr hb4.out hb5)
          clear hb5
          go_wp2_with fail
          go_ret3
          rw [HR3.out]
          exact ⟨⟨_, rfl, ho5.base hb4.out.size⟩, HB5.out⟩
        · have HR3 : Hid (r = ([], 0, 22)) := Lib.hid (by rw [HR2.out, if_pos hq])
          have hqi : (((Crc.more 0 (xs.take E) : Nat) : Int) != ((Code.s4 xs E : Nat) : Int)) = true := by rw [bne_iff_ne]; omega
          clear hq HR2 HSC
          generalize Code.s4 xs E = z at *
          generalize Crc.more 0 (xs.take E) = y at *
          go_wp2_with fail
          go_ret3
          rw [HR3.out]
          exact ⟨⟨_, rfl, Own8.nil _ _⟩, hb4.out⟩
  · rw [if_pos he] at hr
    have HR2 := Lib.hid hr
    have hei : ((e : Int) != 0) = true := by rw [bne_iff_ne]; omega
    clear hr ht
    go_enter Try.func23, Try.ntmps23
    go_wp2_with fail
    refine (take_calls _ cap xs _ hR (by omega)).mono ?_
    rintro e' w2 ⟨rfl, hb2⟩
    rw [HT.out]
    have HB := Lib.hid hb2
    clear hb2
    go_wp2_with fail
    go_ret3
    rw [HR2.out]
    exact ⟨⟨_, rfl, Own8.nil _ _⟩, HB.out⟩
end Go.Proofs.Ytkmhjfileiabeaa
