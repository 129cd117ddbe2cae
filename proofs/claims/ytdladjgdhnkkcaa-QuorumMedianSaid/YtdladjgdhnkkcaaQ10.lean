/-
  The law's 'awake' and 'shared' of layer 12.
  Conditions: the lists can be read.
-/
import Derived.Test.YtdladjgdhnkkcaaQ9
namespace Go.Proofs.Ytdladjgdhnkkcaa
open Go.RowKit
set_option linter.unusedVariables false
set_option linter.unusedSimpArgs false

theorem rdL_new {α : Type} [Inhabited α] {L : Lay α} (w : World) (e : TypeId) (xs : List α) (hm : xs.length ≤ maxLen) (cs : Array Value) (hc : cs = (L.flat xs).toArray) : RdL L (w.alloc (.cells cs e)) (some ⟨w.heap.size, 0, none⟩) xs := by
  obtain ⟨A, cap, e, _, _, h, _⟩ := (OwnL.lit (e := e) w w.heap.size (Nat.le_refl _) xs hm cs hc).form
  injection e with e
  subst e
  exact h
theorem res_pairI {base : Nat} {o : Option (List Int)} {v : Value} {w : World} (h : ResI base o v w) : ∃ u e : Value, v = .tuple #[u, e] := by
  cases o with
  | none => exact ⟨_, _, h⟩
  | some x => obtain ⟨u, h, _⟩ := h; exact ⟨_, _, h⟩
/-- a result, read: an error and no numbers, or numbers -/
theorem res_readI {base : Nat} {o : Option (List Int)} {u e : Value} {w : World} (h : ResI base o (.tuple #[u, e]) w) : ∃ (n : Nat) (x : List Int) (A : Option Addr) (c : Nat), e = .int .i64 n ∧ u = .slice A x.length c ∧ x.length ≤ c ∧ c ≤ maxLen ∧ RdI w A x ∧ Hid (n = (if o.isSome then 0 else 1) ∧ x = o.getD []) := by
  cases o with
  | none =>
    have h' : Value.tuple #[u, e] = .tuple #[.slice none 0 0, .int .i64 1] := h
    injection h' with h'
    obtain ⟨rfl, rfl⟩ : u = _ ∧ e = _ := by simpa using h'
    exact ⟨1, [], none, 0, rfl, rfl, Nat.le_refl _, by simp [maxLen], fun i hi => absurd hi (Nat.not_lt_zero _), Lib.hid ⟨rfl, rfl⟩⟩
  | some x =>
    obtain ⟨u', h', ho⟩ := h
    injection h' with h'
    obtain ⟨rfl, rfl⟩ : u = u' ∧ e = _ := by simpa using h'
    obtain ⟨A, c, rfl, h1, h2, hR, _⟩ := ho.form
    exact ⟨0, x, A, c, rfl, rfl, h1, h2, hR, Lib.hid ⟨rfl, rfl⟩⟩

theorem aw1 : Qm.nxt [1, 2, 3] 4 2 = some [1, 3, 4] := by decide
theorem aw2 : Qm.nxt [1] 0 1 = none := by decide
theorem aw3 : Qm.wins [1, 2, 3] [2, 3] = true := by decide
theorem aw4 : Qm.wins [1, 2, 3] [2, 2] = false := by decide
theorem aw5 : Qm.reached [1, 2, 3] [(1, 9), (2, 4), (3, 7)] = 7 := by decide

set_option maxRecDepth 20000 in
set_option maxHeartbeats 4000000 in
theorem quorum_awake (w : World) : Calls Try.prog 40 #[] w fun e w' => e = .returned (.bool true) ∧ Below w.heap.size w w' := by
  have hn1 := Lib.hid (fun (W : World) => next_calls (some ⟨W.heap.size, 0, none⟩) 3 [1, 2, 3] 4 2 (W.alloc (.cells #[.int .i64 1, .int .i64 2, .int .i64 3] 3)) (Lib.hid (rdL_new W _ [1, 2, 3] (by decide) _ rfl)) (by decide) (by decide))
  have hn2 := Lib.hid (fun (W : World) => next_calls (some ⟨W.heap.size, 0, none⟩) 1 [1] 0 1 (W.alloc (.cells #[.int .i64 1] 3)) (Lib.hid (rdL_new W _ [1] (by decide) _ rfl)) (by decide) (by decide))
  rw [aw1] at hn1
  rw [aw2] at hn2
  have hw1 := Lib.hid (fun (W : World) (A B : Option Addr) (hA : Hid (RdI W A [1, 2, 3])) (hB : Hid (RdI W B [2, 3])) => wins_calls A B 3 2 [1, 2, 3] [2, 3] W hA (by decide) (by decide) hB (by decide))
  have hw2 := Lib.hid (fun (W : World) (A B : Option Addr) (hA : Hid (RdI W A [1, 2, 3])) (hB : Hid (RdI W B [2, 2])) => wins_calls A B 3 2 [1, 2, 3] [2, 2] W hA (by decide) (by decide) hB (by decide))
  have hrc := Lib.hid (fun (W : World) (A B : Option Addr) (hA : Hid (RdI W A [1, 2, 3])) (hB : Hid (RdL layIt W B [(1, 9), (2, 4), (3, 7)])) => reached_calls A B 3 3 [1, 2, 3] [(1, 9), (2, 4), (3, 7)] W hA (by decide) (by decide) hB (by decide))
  rw [aw3] at hw1
  rw [aw4] at hw2
  rw [aw5] at hrc
  have hin := Lib.hid (fun (W : World) (A B : Option Addr) (c : Nat) (hA : Hid (RdI W A [1, 3, 4])) (hB : Hid (RdI W B [1, 3, 4])) => qints_calls A B c 3 [1, 3, 4] [1, 3, 4] W hA (by decide) hB (by decide))
  rw [show decide (([1, 3, 4] : List Int) = [1, 3, 4]) = true from by decide] at hin
  go_enter Try.func40, Try.ntmps40
  go_wp2_with fail
  refine (hn1.out w).mono ?_
  rintro e w1 ⟨⟨v1, rfl, u1, rfl, ho1⟩, hb1⟩
  have HB1 := Lib.hid (bel_al (Below.refl _ w) hb1)
  obtain ⟨A1, c1, rfl, _, _, hA1, _⟩ := ho1.form
  have HA1 := Lib.hid hA1
  clear ho1 hb1 hA1
  go_wp2_with fail
  refine (hn2.out w1).mono ?_
  rintro e w2 ⟨⟨v2, rfl, hv2⟩, hb2⟩
  unfold ResI at hv2
  subst hv2
  have HB2 := Lib.hid (bel_al HB1.out hb2)
  have HA2 := Lib.hid ((HA1.out.bel (bel_new (Below.refl _ _) _)).bel hb2)
  clear hb2
  have hx1 := rdL_new (L := layI .i64) w2 3 [1, 2, 3] (by decide) #[.int .i64 1, .int .i64 2, .int .i64 3] rfl
  have hx2 := rdL_new (L := layI .i64) (w2.alloc (.cells #[.int .i64 1, .int .i64 2, .int .i64 3] 3)) 3 [2, 3] (by decide) #[.int .i64 2, .int .i64 3] rfl
  rw [show (w2.alloc (.cells #[.int .i64 1, .int .i64 2, .int .i64 3] 3)).heap.size = w2.heap.size + 1 from by simp] at hx2
  have HX1 := Lib.hid (hx1.bel (bel_new (Below.refl _ _) (.cells #[.int .i64 2, .int .i64 3] 3)))
  have HX2 := Lib.hid hx2
  clear hx1 hx2
  go_wp2_with fail
  refine (hw1.out _ _ _ HX1 HX2).mono ?_
  rintro e w3 ⟨rfl, rfl⟩
  have HB3 := Lib.hid (bel_new (bel_new HB2.out (.cells #[.int .i64 1, .int .i64 2, .int .i64 3] 3)) (.cells #[.int .i64 2, .int .i64 3] 3))
  have HA3 := Lib.hid (HA2.out.bel (bel_new (bel_new (Below.refl _ w2) (.cells #[.int .i64 1, .int .i64 2, .int .i64 3] 3)) (.cells #[.int .i64 2, .int .i64 3] 3)))
  generalize (w2.alloc (.cells #[.int .i64 1, .int .i64 2, .int .i64 3] 3)).alloc (.cells #[.int .i64 2, .int .i64 3] 3) = W3 at *
  clear HX1 HX2
  have hx1 := rdL_new (L := layI .i64) W3 3 [1, 2, 3] (by decide) #[.int .i64 1, .int .i64 2, .int .i64 3] rfl
  have hx2 := rdL_new (L := layI .i64) (W3.alloc (.cells #[.int .i64 1, .int .i64 2, .int .i64 3] 3)) 3 [2, 2] (by decide) #[.int .i64 2, .int .i64 2] rfl
  rw [show (W3.alloc (.cells #[.int .i64 1, .int .i64 2, .int .i64 3] 3)).heap.size = W3.heap.size + 1 from by simp] at hx2
  have HX1 := Lib.hid (hx1.bel (bel_new (Below.refl _ _) (.cells #[.int .i64 2, .int .i64 2] 3)))
  have HX2 := Lib.hid hx2
  clear hx1 hx2
  go_wp2_with fail
  refine (hw2.out _ _ _ HX1 HX2).mono ?_
  rintro e w4 ⟨rfl, rfl⟩
  have HB4 := Lib.hid (bel_new (bel_new HB3.out (.cells #[.int .i64 1, .int .i64 2, .int .i64 3] 3)) (.cells #[.int .i64 2, .int .i64 2] 3))
  have HA4 := Lib.hid (HA3.out.bel (bel_new (bel_new (Below.refl _ W3) (.cells #[.int .i64 1, .int .i64 2, .int .i64 3] 3)) (.cells #[.int .i64 2, .int .i64 2] 3)))
  generalize (W3.alloc (.cells #[.int .i64 1, .int .i64 2, .int .i64 3] 3)).alloc (.cells #[.int .i64 2, .int .i64 2] 3) = W4 at *
  clear HX1 HX2
  have hx1 := rdL_new (L := layI .i64) W4 3 [1, 2, 3] (by decide) #[.int .i64 1, .int .i64 2, .int .i64 3] rfl
  have hx2 := rdL_new (L := layIt) (W4.alloc (.cells #[.int .i64 1, .int .i64 2, .int .i64 3] 3)) 92 [(1, 9), (2, 4), (3, 7)] (by decide) #[.int .i64 1, .int .i64 9, .int .i64 2, .int .i64 4, .int .i64 3, .int .i64 7] rfl
  rw [show (W4.alloc (.cells #[.int .i64 1, .int .i64 2, .int .i64 3] 3)).heap.size = W4.heap.size + 1 from by simp] at hx2
  have HX1 := Lib.hid (hx1.bel (bel_new (Below.refl _ _) (.cells #[.int .i64 1, .int .i64 9, .int .i64 2, .int .i64 4, .int .i64 3, .int .i64 7] 92)))
  have HX2 := Lib.hid hx2
  clear hx1 hx2
  go_wp2_with fail
  refine (hrc.out _ _ _ HX1 HX2).mono ?_
  rintro e w5 ⟨rfl, hb5⟩
  have HB5 := Lib.hid (bel_tr (bel_new (bel_new HB4.out (.cells #[.int .i64 1, .int .i64 2, .int .i64 3] 3)) (.cells #[.int .i64 1, .int .i64 9, .int .i64 2, .int .i64 4, .int .i64 3, .int .i64 7] 92)) hb5)
  have HA5 := Lib.hid ((HA4.out.bel (bel_new (bel_new (Below.refl _ W4) (.cells #[.int .i64 1, .int .i64 2, .int .i64 3] 3)) (.cells #[.int .i64 1, .int .i64 9, .int .i64 2, .int .i64 4, .int .i64 3, .int .i64 7] 92))).bel hb5)
  have hx1 := rdL_new (L := layI .i64) w5 3 [1, 3, 4] (by decide) #[.int .i64 1, .int .i64 3, .int .i64 4] rfl
  have HX3 := Lib.hid hx1
  clear hb5 hx1 HX1 HX2
  go_wp2_with fail
  refine (hin.out _ A1 _ c1 (Lib.hid (HA5.out.bel (bel_new (Below.refl _ _) _))) HX3).mono ?_
  rintro e w6 ⟨rfl, hb6⟩
  have HB6 := Lib.hid (bel_al HB5.out hb6)
  clear hb6
  go_wp2_with fail
  go_ret
  exact ⟨rfl, HB6.out⟩

set_option maxHeartbeats 1000000 in
/-- have two sets a node of a configuration in common? -/
theorem shared_calls (A B C : Option Addr) (cap cap' cap2 : Nat) (l a b : List Int) (w : World) (hR : Hid (RdI w A l)) (hlen : l.length ≤ 9223372036854775807) (hA : Hid (RdI w B a)) (hla : a.length ≤ 9223372036854775807) (hB : Hid (RdI w C b)) (hlb : b.length ≤ 9223372036854775807) :
    Calls Try.prog 47 #[.slice A l.length cap, .slice B a.length cap', .slice C b.length cap2] w fun e w' => e = .returned (.bool (l.any fun c => decide (c ∈ a) && decide (c ∈ b))) ∧ w = w' := by
  obtain ⟨r, hr⟩ : ∃ r, r = l.any fun c => decide (c ∈ a) && decide (c ∈ b) := ⟨_, rfl⟩
  rw [← hr]
  have HR := Lib.hid hr
  clear hr
  go_enter Try.func47, Try.ntmps47
  go_wp2_with fail
  go_loopg [7] l.length (fun g v7 W => W = w ∧ ∃ k : Nat, v7 = .int .i64 k ∧ Hid (k + g = l.length ∧ r = (l.drop k).any fun c => decide (c ∈ a) && decide (c ∈ b)))
  case atStart => exact ⟨rfl, 0, rfl, Lib.hid ⟨by omega, by rw [List.drop_zero]; exact HR.out⟩⟩
  case round =>
    obtain ⟨rfl, k, rfl, HI⟩ := hrel
    by_cases hlt : k < l.length
    · have hl : (k : Int) < (l.length : Int) := by omega
      have hg : 0 < gk := by have := HI.out.1; omega
      obtain ⟨bb, off, rfl, _, hc⟩ := hR.out.int k hlt
      have hI := HI.out.2
      rw [Qm.drop_at l k hlt, List.any_cons] at hI
      generalize l.getD k default = x at *
      have HII := Lib.hid hI
      clear hI
      go_wp2_with fail
      refine (has_calls B cap' a x wr hA hla).mono ?_
      rintro e w' ⟨rfl, rfl⟩
      by_cases h1 : x ∈ a
      · rw [decide_eq_true h1]
        go_wp2_with fail
        refine (has_calls C cap2 b x wr hB hlb).mono ?_
        rintro e w' ⟨rfl, rfl⟩
        by_cases h2 : x ∈ b
        · have hr : r = true := by rw [HII.out, decide_eq_true h1, decide_eq_true h2]; rfl
          have HRR := Lib.hid hr
          rw [decide_eq_true h2]
          clear h1 h2 hr
          go_wp2_with fail
          go_ret
          exact ⟨ret_bool HRR.out.symm, rfl⟩
        · have hr : r = (l.drop (k + 1)).any fun c => decide (c ∈ a) && decide (c ∈ b) := by rw [HII.out, decide_eq_false h2]; simp
          have HRR := Lib.hid hr
          rw [decide_eq_false h2]
          clear h1 h2 hr
          go_wp2_with fail
          go_roundg (gk - 1)
          case rel => exact ⟨rfl, k + 1, by go_num, Lib.hid ⟨by have := HI.out.1; omega, HRR.out⟩⟩
          case measure => omega
      · have hr : r = (l.drop (k + 1)).any fun c => decide (c ∈ a) && decide (c ∈ b) := by rw [HII.out, decide_eq_false h1]; simp
        have HRR := Lib.hid hr
        rw [decide_eq_false h1]
        clear h1 hr
        go_wp2_with fail
        go_roundg (gk - 1)
        case rel => exact ⟨rfl, k + 1, by go_num, Lib.hid ⟨by have := HI.out.1; omega, HRR.out⟩⟩
        case measure => omega
    · have hl : ¬ (k : Int) < (l.length : Int) := by omega
      have hr : r = false := by rw [HI.out.2, List.drop_eq_nil_of_le (by omega)]; rfl
      have HRR := Lib.hid hr
      clear hlt hr
      go_wp2_with fail
      go_ret
      exact ⟨ret_bool HRR.out.symm, rfl⟩
end Go.Proofs.Ytdladjgdhnkkcaa
