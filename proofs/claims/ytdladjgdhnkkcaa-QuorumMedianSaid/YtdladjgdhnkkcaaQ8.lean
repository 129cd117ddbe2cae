/-
  Contract of quorum.Next.
  Conditions: the list can be read.
-/
import Derived.Test.YtdladjgdhnkkcaaQ7
namespace Go.Proofs.Ytdladjgdhnkkcaa
open Go.RowKit
set_option linter.unusedVariables false
set_option linter.unusedSimpArgs false

/-- numbers made, or an error -/
def ResI (base : Nat) (o : Option (List Int)) (v : Value) (w : World) : Prop :=
  match o with
  | none => v = .tuple #[.slice none 0 0, .int .i64 1]
  | some x => ∃ u, v = .tuple #[u, .int .i64 0] ∧ OwnL (layI .i64) 3 w base u x
theorem OwnL.base {α : Type} [Inhabited α] {L : Lay α} {e : TypeId} {w : World} {b0 b1 : Nat} {v : Value} {xs : List α} (h : OwnL L e w b1 v xs) (hb : b0 ≤ b1) : OwnL L e w b0 v xs := by
  rcases h.2 with ⟨rfl, e⟩ | ⟨k, cap, cur, rfl, h1, h2⟩
  · exact ⟨h.1, .inl ⟨rfl, e⟩⟩
  · exact ⟨h.1, .inr ⟨k, cap, cur, rfl, Nat.le_trans hb h1, h2⟩⟩
theorem rdI_one (w : World) (x : Int) : RdL (layI .i64) (w.alloc (.cells #[.int .i64 x] 3)) (some ⟨w.heap.size, 0, none⟩) [x] := by
  obtain ⟨A, cap, e, _, _, h, _⟩ := (OwnL.lit (L := layI .i64) (e := 3) w w.heap.size (Nat.le_refl _) [x] (by simp [maxLen]) #[.int .i64 x] rfl).form
  injection e with e
  subst e
  exact h
theorem OwnL.rd {α : Type} [Inhabited α] {L : Lay α} {e : TypeId} {w : World} {base : Nat} {A : Option Addr} {n c : Nat} {xs : List α} (h : OwnL L e w base (.slice A n c) xs) : RdL L w A xs ∧ n = xs.length := by
  obtain ⟨A', c', e, _, _, hr, _⟩ := h.form
  injection e with e1 e2 e3
  subst e1; subst e2; subst e3
  exact ⟨hr, rfl⟩

set_option maxRecDepth 20000 in
set_option maxHeartbeats 2000000 in
theorem next_calls (A : Option Addr) (cap : Nat) (l : List Int) (add remove : Int) (w : World) (hR : Hid (RdI w A l)) (hlen : l.length ≤ cap) (hcap : cap ≤ 9223372036854775807) :
    Calls Try.prog 41 #[.slice A l.length cap, .int .i64 add, .int .i64 remove] w fun e w' => (∃ v, e = .returned v ∧ ResI w.heap.size (Qm.nxt l add remove) v w') ∧ Below w.heap.size w w' := by
  obtain ⟨o, ho⟩ : ∃ o, o = Qm.nxt l add remove := ⟨_, rfl⟩
  rw [← ho]
  have HO := Lib.hid ho
  clear ho
  have hbW := Lib.hid (bel_new (Below.refl w.heap.size w) (.cells #[.int .i64 remove] 3))
  have hcW : (w.alloc (.cells #[.int .i64 remove] 3)).cell? ⟨w.heap.size, 0, none⟩ = some (.int .i64 remove) := (Blk.new w 3 #[.int .i64 remove]).cells 0
  have HCW := Lib.hid hcW
  have HSZ : Hid ((w.alloc (.cells #[.int .i64 remove] 3)).heap.size = w.heap.size + 1) := Lib.hid (by simp)
  have HRW := Lib.hid (hR.out.bel hbW.out)
  clear hcW
  go_enter Try.func41, Try.ntmps41
  go_wp2_with fail
  refine (qcheck_calls A cap l _ HRW hlen hcap).mono ?_
  rintro e w' ⟨rfl, rfl⟩
  by_cases hq : Qm.chk l = true
  rotate_left
  · have hq' : Qm.chk l = false := by simpa using hq
    have hoo : o = none := by rw [HO.out]; unfold Qm.nxt; rw [if_pos (.inl hq')]
    rw [hq']
    subst hoo
    clear hq hq'
    go_wp2_with fail
    go_ret2
    exact ⟨⟨_, rfl, rfl⟩, hbW.out⟩
  obtain ⟨_, hl0, hl7⟩ := Qm.chk_asc hq
  have HQ := Lib.hid hq
  rw [hq]
  clear hq
  by_cases ha : add < 0
  · have hoo : o = none := by rw [HO.out]; unfold Qm.nxt; rw [if_pos (.inr (.inl ha))]
    subst hoo
    go_wp2_with fail
    go_ret2
    exact ⟨⟨_, rfl, rfl⟩, hbW.out⟩
  by_cases hr : remove < 0
  · have hoo : o = none := by rw [HO.out]; unfold Qm.nxt; rw [if_pos (.inr (.inr (.inl hr)))]
    subst hoo
    go_wp2_with fail
    go_ret2
    exact ⟨⟨_, rfl, rfl⟩, hbW.out⟩
  go_wp2_with fail
  refine (contains_calls A cap l add _ HRW (by omega)).mono ?_
  rintro e w' ⟨rfl, rfl⟩
  by_cases hm : add ∈ l
  · have hoo : o = none := by rw [HO.out]; unfold Qm.nxt; rw [if_pos (.inr (.inr (.inr (.inl hm))))]
    rw [decide_eq_true hm]
    subst hoo
    clear hm
    go_wp2_with fail
    go_ret2
    exact ⟨⟨_, rfl, rfl⟩, hbW.out⟩
  rw [decide_eq_false hm]
  have HM := Lib.hid hm
  clear hm
  by_cases hr0 : 0 < remove
  · go_wp2_with fail
    refine (contains_calls A cap l remove _ HRW (by omega)).mono ?_
    rintro e w' ⟨rfl, rfl⟩
    by_cases hm : remove ∈ l
    rotate_left
    · have hoo : o = none := by rw [HO.out]; unfold Qm.nxt; rw [if_pos (.inr (.inr (.inr (.inr ⟨hr0, hm⟩))))]
      rw [decide_eq_false hm]
      subst hoo
      clear hm
      go_wp2_with fail
      go_ret2
      exact ⟨⟨_, rfl, rfl⟩, hbW.out⟩
    rw [decide_eq_true hm]
    have HRM : Hid (0 < remove → ¬ remove ∉ l) := Lib.hid (fun _ h => h hm)
    clear hm
    by_cases h0 : 0 < add
    · obtain ⟨l2, hl2e⟩ : ∃ l2, l2 = l ++ [add] := ⟨_, rfl⟩
      have HL2 := Lib.hid hl2e
      have hoo : o = if Qm.chk (Qm.srt (Qm.rest remove l2)) then some (Qm.srt (Qm.rest remove l2)) else none := by
        rw [HO.out]; unfold Qm.nxt
        rw [if_neg (by rintro (h | h | h | h | ⟨h, h'⟩); exact absurd (HQ.out.symm.trans h) (by decide); omega; omega; exact HM.out h; exact HRM.out h h'), if_pos h0, ← hl2e]
      have HOO := Lib.hid hoo
      clear hoo hl2e
      clear HM HRM
      go_wp2_with fail
      refine (cloneI_calls A cap l _ HRW hl0 (by omega)).mono ?_
      rintro e w1 ⟨⟨g, c, rfl, hg1, hg2, hc1, hc2, hown⟩, hb1⟩
      have HOW := Lib.hid hown
      have HB1 := Lib.hid (bel_al (Below.refl _ w) hb1)
      have HC1 := Lib.hid ((hb1.cell (p := ⟨w.heap.size, 0, none⟩) (by have := HSZ.out; show w.heap.size < _; omega)).trans HCW.out)
      have HS1 : Hid ((w.alloc (.cells #[.int .i64 remove] 3)).heap.size ≤ w1.heap.size) := Lib.hid hb1.size
      clear hown hb1
      have HONE := Lib.hid (rdI_one w1 add)
      go_wp2_with (first
        | (at_builtin
           refine wpList_appL 45 _ 8 Try.underlying45 infoI rfl rfl (.tmp 39) (.tmp 41) rfl (w.alloc (.cells #[.int .i64 remove] 3)).heap.size _ l rfl (HOW.out.kept (bel_new (Below.refl _ _) _)) (some ⟨w1.heap.size, 0, none⟩) 1 1 [add] rfl rfl HONE.out (by simp [maxLen]; omega) (by simp; omega) (by have := HS1.out; simp at this ⊢; omega) ?_
           intro v2 w2 ho2 hg2
           have HB2 := Lib.hid (OwnL.grown (w0 := w1) (HOW.out.kept (bel_new (Below.refl _ _) _)) ((Below.refl _ w1).alloc HS1.out _) (by have := HS1.out; simp at this ⊢; omega) hg2)
           rw [← HL2.out] at ho2
           have hl2 : l2.length ≤ 8 := by rw [HL2.out]; simp; omega
           have hl20 : 0 < l2.length := by rw [HL2.out]; simp
           obtain ⟨g2, c2, rfl, hgg1, hgg2, hcc1, hcc2⟩ := ho2.block hl20
           have HOW2 := Lib.hid ho2
           have hg2g := hg2
           clear ho2 hg2))
      have HBW2 : Hid (Below w.heap.size w w2) := Lib.hid (HB1.out.trans (HB2.out.mono (by have := HSZ.out; omega)))
      have HC2 := Lib.hid ((HB2.out.cell (p := ⟨w.heap.size, 0, none⟩) (by have := HSZ.out; show w.heap.size < _; omega)).trans HC1.out)
      have HS2 : Hid ((w.alloc (.cells #[.int .i64 remove] 3)).heap.size ≤ w2.heap.size) := Lib.hid (Nat.le_trans HS1.out HB2.out.size)
      have hle0 : w.heap.size ≤ (w.alloc (.cells #[.int .i64 remove] 3)).heap.size := by have := HSZ.out; omega
      have hdel := delf_calls (w.alloc (.cells #[.int .i64 remove] 3)).heap.size g2 c2 l2 w.heap.size remove w2 HOW2 hcc1 (by unfold maxLen at hcc2; omega) HC2 (by have := HS2.out; have := HSZ.out; omega) (by have := hgg1; have := HSZ.out; omega)
      refine hdel.mono ?_
      rintro e w3 ⟨rfl, ho3, hg3⟩
      have HB3 := Lib.hid (OwnL.grown (w0 := w) (HOW2.out.base hle0) HBW2.out HBW2.out.size hg3)
      have HOW3 := Lib.hid ho3
      have hrl := Qm.rest_len remove l2
      clear ho3 hg3 hdel
      go_wp2_with fail
      refine (sortI_calls _ _ _ w3 HOW3 (by omega)).mono ?_
      rintro e w4 ⟨rfl, ys, y1, y2, y3, y4⟩
      have hys := Qm.srt_eq y1 y2
      have HB4 := Lib.hid (OwnL.grown (w0 := w) (HOW3.out.base hle0) HB3.out HB3.out.size y4)
      obtain ⟨hrd, hrn⟩ := y3.rd
      have hqc := qcheck_calls (some ⟨g2, 0, none⟩) c2 ys w4 (Lib.hid hrd) (by omega) (by unfold maxLen at hcc2; omega)
      rw [← hrn, hys] at hqc
      have HQC := Lib.hid hqc
      rw [hys] at y3
      have HY := Lib.hid (y3.base hle0)
      clear y1 y2 y3 y4 hys hrd hrn hqc
      generalize Qm.srt (Qm.rest remove l2) = S at *
      go_wp2_with fail
      refine HQC.out.mono ?_
      rintro e w' ⟨rfl, rfl⟩
      by_cases hcs : Qm.chk S = true
      · have hoo : o = some S := by rw [HOO.out, if_pos hcs]
        have HO3 := Lib.hid hoo
        rw [hcs]
        clear hcs hoo
        go_wp2_with fail
        go_ret2
        rw [HO3.out]
        exact ⟨⟨_, rfl, ⟨_, rfl, HY.out⟩⟩, HB4.out⟩
      · have hcs' : Qm.chk S = false := by simpa using hcs
        have hoo : o = none := by rw [HOO.out, if_neg hcs]
        have HO3 := Lib.hid hoo
        rw [hcs']
        clear hcs hcs' hoo
        go_wp2_with fail
        go_ret2
        rw [HO3.out]
        exact ⟨⟨_, rfl, rfl⟩, HB4.out⟩
    · have hoo : o = if Qm.chk (Qm.srt (Qm.rest remove l)) then some (Qm.srt (Qm.rest remove l)) else none := by
        rw [HO.out]; unfold Qm.nxt
        rw [if_neg (by rintro (h | h | h | h | ⟨h, h'⟩); exact absurd (HQ.out.symm.trans h) (by decide); omega; omega; exact HM.out h; exact HRM.out h h'), if_neg h0]
      have HOO := Lib.hid hoo
      clear hoo
      clear HM HRM
      go_wp2_with fail
      refine (cloneI_calls A cap l _ HRW hl0 (by omega)).mono ?_
      rintro e w1 ⟨⟨g, c, rfl, hg1, hg2, hc1, hc2, hown⟩, hb1⟩
      have HOW := Lib.hid hown
      have HB1 := Lib.hid (bel_al (Below.refl _ w) hb1)
      have HC1 := Lib.hid ((hb1.cell (p := ⟨w.heap.size, 0, none⟩) (by have := HSZ.out; show w.heap.size < _; omega)).trans HCW.out)
      have HS1 : Hid ((w.alloc (.cells #[.int .i64 remove] 3)).heap.size ≤ w1.heap.size) := Lib.hid hb1.size
      clear hown hb1
      have hl2 : l.length ≤ 8 := by omega
      have hcc1 := hc1
      go_wp2_with fail
      have hle0 : w.heap.size ≤ (w.alloc (.cells #[.int .i64 remove] 3)).heap.size := by have := HSZ.out; omega
      have hdel := delf_calls (w.alloc (.cells #[.int .i64 remove] 3)).heap.size g c l w.heap.size remove w1 HOW hcc1 (by unfold maxLen at hc2; omega) HC1 (by have := HS1.out; have := HSZ.out; omega) (by have := hg1; have := HSZ.out; omega)
      refine hdel.mono ?_
      rintro e w3 ⟨rfl, ho3, hg3⟩
      have HB3 := Lib.hid (OwnL.grown (w0 := w) (HOW.out.base hle0) HB1.out HB1.out.size hg3)
      have HOW3 := Lib.hid ho3
      have hrl := Qm.rest_len remove l
      clear ho3 hg3 hdel
      go_wp2_with fail
      refine (sortI_calls _ _ _ w3 HOW3 (by omega)).mono ?_
      rintro e w4 ⟨rfl, ys, y1, y2, y3, y4⟩
      have hys := Qm.srt_eq y1 y2
      have HB4 := Lib.hid (OwnL.grown (w0 := w) (HOW3.out.base hle0) HB3.out HB3.out.size y4)
      obtain ⟨hrd, hrn⟩ := y3.rd
      have hqc := qcheck_calls (some ⟨g, 0, none⟩) c ys w4 (Lib.hid hrd) (by omega) (by unfold maxLen at hc2; omega)
      rw [← hrn, hys] at hqc
      have HQC := Lib.hid hqc
      rw [hys] at y3
      have HY := Lib.hid (y3.base hle0)
      clear y1 y2 y3 y4 hys hrd hrn hqc
      generalize Qm.srt (Qm.rest remove l) = S at *
      go_wp2_with fail
      refine HQC.out.mono ?_
      rintro e w' ⟨rfl, rfl⟩
      by_cases hcs : Qm.chk S = true
      · have hoo : o = some S := by rw [HOO.out, if_pos hcs]
        have HO3 := Lib.hid hoo
        rw [hcs]
        clear hcs hoo
        go_wp2_with fail
        go_ret2
        rw [HO3.out]
        exact ⟨⟨_, rfl, ⟨_, rfl, HY.out⟩⟩, HB4.out⟩
      · have hcs' : Qm.chk S = false := by simpa using hcs
        have hoo : o = none := by rw [HOO.out, if_neg hcs]
        have HO3 := Lib.hid hoo
        rw [hcs']
        clear hcs hcs' hoo
        go_wp2_with fail
        go_ret2
        rw [HO3.out]
        exact ⟨⟨_, rfl, rfl⟩, HB4.out⟩
  · have HRM : Hid (0 < remove → ¬ remove ∉ l) := Lib.hid (fun h => absurd h hr0)
    by_cases h0 : 0 < add
    · obtain ⟨l2, hl2e⟩ : ∃ l2, l2 = l ++ [add] := ⟨_, rfl⟩
      have HL2 := Lib.hid hl2e
      have hoo : o = if Qm.chk (Qm.srt (Qm.rest remove l2)) then some (Qm.srt (Qm.rest remove l2)) else none := by
        rw [HO.out]; unfold Qm.nxt
        rw [if_neg (by rintro (h | h | h | h | ⟨h, h'⟩); exact absurd (HQ.out.symm.trans h) (by decide); omega; omega; exact HM.out h; exact HRM.out h h'), if_pos h0, ← hl2e]
      have HOO := Lib.hid hoo
      clear hoo hl2e
      clear HM HRM
      go_wp2_with fail
      refine (cloneI_calls A cap l _ HRW hl0 (by omega)).mono ?_
      rintro e w1 ⟨⟨g, c, rfl, hg1, hg2, hc1, hc2, hown⟩, hb1⟩
      have HOW := Lib.hid hown
      have HB1 := Lib.hid (bel_al (Below.refl _ w) hb1)
      have HC1 := Lib.hid ((hb1.cell (p := ⟨w.heap.size, 0, none⟩) (by have := HSZ.out; show w.heap.size < _; omega)).trans HCW.out)
      have HS1 : Hid ((w.alloc (.cells #[.int .i64 remove] 3)).heap.size ≤ w1.heap.size) := Lib.hid hb1.size
      clear hown hb1
      have HONE := Lib.hid (rdI_one w1 add)
      go_wp2_with (first
        | (at_builtin
           refine wpList_appL 45 _ 8 Try.underlying45 infoI rfl rfl (.tmp 39) (.tmp 41) rfl (w.alloc (.cells #[.int .i64 remove] 3)).heap.size _ l rfl (HOW.out.kept (bel_new (Below.refl _ _) _)) (some ⟨w1.heap.size, 0, none⟩) 1 1 [add] rfl rfl HONE.out (by simp [maxLen]; omega) (by simp; omega) (by have := HS1.out; simp at this ⊢; omega) ?_
           intro v2 w2 ho2 hg2
           have HB2 := Lib.hid (OwnL.grown (w0 := w1) (HOW.out.kept (bel_new (Below.refl _ _) _)) ((Below.refl _ w1).alloc HS1.out _) (by have := HS1.out; simp at this ⊢; omega) hg2)
           rw [← HL2.out] at ho2
           have hl2 : l2.length ≤ 8 := by rw [HL2.out]; simp; omega
           have hl20 : 0 < l2.length := by rw [HL2.out]; simp
           obtain ⟨g2, c2, rfl, hgg1, hgg2, hcc1, hcc2⟩ := ho2.block hl20
           have HOW2 := Lib.hid ho2
           have hg2g := hg2
           clear ho2 hg2))
      have HBW2 : Hid (Below w.heap.size w w2) := Lib.hid (HB1.out.trans (HB2.out.mono (by have := HSZ.out; omega)))
      have HC2 := Lib.hid ((HB2.out.cell (p := ⟨w.heap.size, 0, none⟩) (by have := HSZ.out; show w.heap.size < _; omega)).trans HC1.out)
      have HS2 : Hid ((w.alloc (.cells #[.int .i64 remove] 3)).heap.size ≤ w2.heap.size) := Lib.hid (Nat.le_trans HS1.out HB2.out.size)
      have hle0 : w.heap.size ≤ (w.alloc (.cells #[.int .i64 remove] 3)).heap.size := by have := HSZ.out; omega
      have hdel := delf_calls (w.alloc (.cells #[.int .i64 remove] 3)).heap.size g2 c2 l2 w.heap.size remove w2 HOW2 hcc1 (by unfold maxLen at hcc2; omega) HC2 (by have := HS2.out; have := HSZ.out; omega) (by have := hgg1; have := HSZ.out; omega)
      refine hdel.mono ?_
      rintro e w3 ⟨rfl, ho3, hg3⟩
      have HB3 := Lib.hid (OwnL.grown (w0 := w) (HOW2.out.base hle0) HBW2.out HBW2.out.size hg3)
      have HOW3 := Lib.hid ho3
      have hrl := Qm.rest_len remove l2
      clear ho3 hg3 hdel
      go_wp2_with fail
      refine (sortI_calls _ _ _ w3 HOW3 (by omega)).mono ?_
      rintro e w4 ⟨rfl, ys, y1, y2, y3, y4⟩
      have hys := Qm.srt_eq y1 y2
      have HB4 := Lib.hid (OwnL.grown (w0 := w) (HOW3.out.base hle0) HB3.out HB3.out.size y4)
      obtain ⟨hrd, hrn⟩ := y3.rd
      have hqc := qcheck_calls (some ⟨g2, 0, none⟩) c2 ys w4 (Lib.hid hrd) (by omega) (by unfold maxLen at hcc2; omega)
      rw [← hrn, hys] at hqc
      have HQC := Lib.hid hqc
      rw [hys] at y3
      have HY := Lib.hid (y3.base hle0)
      clear y1 y2 y3 y4 hys hrd hrn hqc
      generalize Qm.srt (Qm.rest remove l2) = S at *
      go_wp2_with fail
      refine HQC.out.mono ?_
      rintro e w' ⟨rfl, rfl⟩
      by_cases hcs : Qm.chk S = true
      · have hoo : o = some S := by rw [HOO.out, if_pos hcs]
        have HO3 := Lib.hid hoo
        rw [hcs]
        clear hcs hoo
        go_wp2_with fail
        go_ret2
        rw [HO3.out]
        exact ⟨⟨_, rfl, ⟨_, rfl, HY.out⟩⟩, HB4.out⟩
      · have hcs' : Qm.chk S = false := by simpa using hcs
        have hoo : o = none := by rw [HOO.out, if_neg hcs]
        have HO3 := Lib.hid hoo
        rw [hcs']
        clear hcs hcs' hoo
        go_wp2_with fail
        go_ret2
        rw [HO3.out]
        exact ⟨⟨_, rfl, rfl⟩, HB4.out⟩
    · have hoo : o = if Qm.chk (Qm.srt (Qm.rest remove l)) then some (Qm.srt (Qm.rest remove l)) else none := by
        rw [HO.out]; unfold Qm.nxt
        rw [if_neg (by rintro (h | h | h | h | ⟨h, h'⟩); exact absurd (HQ.out.symm.trans h) (by decide); omega; omega; exact HM.out h; exact HRM.out h h'), if_neg h0]
      have HOO := Lib.hid hoo
      clear hoo
      clear HM HRM
      go_wp2_with fail
      refine (cloneI_calls A cap l _ HRW hl0 (by omega)).mono ?_
      rintro e w1 ⟨⟨g, c, rfl, hg1, hg2, hc1, hc2, hown⟩, hb1⟩
      have HOW := Lib.hid hown
      have HB1 := Lib.hid (bel_al (Below.refl _ w) hb1)
      have HC1 := Lib.hid ((hb1.cell (p := ⟨w.heap.size, 0, none⟩) (by have := HSZ.out; show w.heap.size < _; omega)).trans HCW.out)
      have HS1 : Hid ((w.alloc (.cells #[.int .i64 remove] 3)).heap.size ≤ w1.heap.size) := Lib.hid hb1.size
      clear hown hb1
      have hl2 : l.length ≤ 8 := by omega
      have hcc1 := hc1
      go_wp2_with fail
      have hle0 : w.heap.size ≤ (w.alloc (.cells #[.int .i64 remove] 3)).heap.size := by have := HSZ.out; omega
      have hdel := delf_calls (w.alloc (.cells #[.int .i64 remove] 3)).heap.size g c l w.heap.size remove w1 HOW hcc1 (by unfold maxLen at hc2; omega) HC1 (by have := HS1.out; have := HSZ.out; omega) (by have := hg1; have := HSZ.out; omega)
      refine hdel.mono ?_
      rintro e w3 ⟨rfl, ho3, hg3⟩
      have HB3 := Lib.hid (OwnL.grown (w0 := w) (HOW.out.base hle0) HB1.out HB1.out.size hg3)
      have HOW3 := Lib.hid ho3
      have hrl := Qm.rest_len remove l
      clear ho3 hg3 hdel
      go_wp2_with fail
      refine (sortI_calls _ _ _ w3 HOW3 (by omega)).mono ?_
      rintro e w4 ⟨rfl, ys, y1, y2, y3, y4⟩
      have hys := Qm.srt_eq y1 y2
      have HB4 := Lib.hid (OwnL.grown (w0 := w) (HOW3.out.base hle0) HB3.out HB3.out.size y4)
      obtain ⟨hrd, hrn⟩ := y3.rd
      have hqc := qcheck_calls (some ⟨g, 0, none⟩) c ys w4 (Lib.hid hrd) (by omega) (by unfold maxLen at hc2; omega)
      rw [← hrn, hys] at hqc
      have HQC := Lib.hid hqc
      rw [hys] at y3
      have HY := Lib.hid (y3.base hle0)
      clear y1 y2 y3 y4 hys hrd hrn hqc
      generalize Qm.srt (Qm.rest remove l) = S at *
      go_wp2_with fail
      refine HQC.out.mono ?_
      rintro e w' ⟨rfl, rfl⟩
      by_cases hcs : Qm.chk S = true
      · have hoo : o = some S := by rw [HOO.out, if_pos hcs]
        have HO3 := Lib.hid hoo
        rw [hcs]
        clear hcs hoo
        go_wp2_with fail
        go_ret2
        rw [HO3.out]
        exact ⟨⟨_, rfl, ⟨_, rfl, HY.out⟩⟩, HB4.out⟩
      · have hcs' : Qm.chk S = false := by simpa using hcs
        have hoo : o = none := by rw [HOO.out, if_neg hcs]
        have HO3 := Lib.hid hoo
        rw [hcs']
        clear hcs hcs' hoo
        go_wp2_with fail
        go_ret2
        rw [HO3.out]
        exact ⟨⟨_, rfl, rfl⟩, HB4.out⟩
end Go.Proofs.Ytdladjgdhnkkcaa
