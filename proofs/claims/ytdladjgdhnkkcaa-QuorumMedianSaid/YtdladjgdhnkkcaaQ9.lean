/-
  Contract of the reference's Next.
  Conditions: the list can be read.
-/
import Derived.Test.YtdladjgdhnkkcaaQ8
namespace Go.Proofs.Ytdladjgdhnkkcaa
open Go.RowKit
set_option linter.unusedVariables false
set_option linter.unusedSimpArgs false

namespace Qm
theorem putin_len (add remove : Int) : ∀ (put : Bool) (l : List Int), (putin add remove put l).length ≤ l.length + 1
  | put, [] => by cases put <;> simp [putin]
  | true, x :: l => by
    rw [putin_true]
    have := rest_len remove (x :: l)
    omega
  | false, x :: l => by
    simp only [putin, Bool.not_false, Bool.true_and, Bool.false_or]
    by_cases h : add < x
    · simp only [decide_eq_true h, if_true, putin_true, List.length_append, List.length_cons, List.length_nil]
      have := rest_len remove l
      split <;> simp <;> omega
    · simp only [decide_eq_false h, Bool.false_eq_true, if_false, List.nil_append, List.length_append, List.length_cons]
      have := putin_len add remove false l
      split <;> simp <;> omega
end Qm

set_option maxRecDepth 20000 in
set_option maxHeartbeats 2000000 in
theorem rnext_calls (A : Option Addr) (cap : Nat) (l : List Int) (add remove : Int) (w : World) (hR : Hid (RdI w A l)) (hlen : l.length ≤ 9223372036854775807) :
    Calls Try.prog 42 #[.slice A l.length cap, .int .i64 add, .int .i64 remove] w fun e w' => (∃ v, e = .returned v ∧ ResI w.heap.size (Qm.nxt l add remove) v w') ∧ Below w.heap.size w w' := by
  obtain ⟨o, ho⟩ : ∃ o, o = Qm.nxt l add remove := ⟨_, rfl⟩
  rw [← ho]
  have HO := Lib.hid ho
  clear ho
  go_enter Try.func42, Try.ntmps42
  go_wp2_with fail
  refine (qrcheck_calls A cap l _ hR hlen).mono ?_
  rintro e w' ⟨rfl, rfl⟩
  by_cases hq : Qm.chk l = true
  rotate_left
  · have hq' : Qm.chk l = false := by simpa using hq
    have hoo : o = none := by rw [HO.out]; unfold Qm.nxt; rw [if_pos (.inl hq')]
    rw [hq']
    subst hoo
    clear hq hq'
    go_wp2_with fail
    go_ret2
    exact ⟨⟨_, rfl, rfl⟩, Below.refl _ _⟩
  obtain ⟨_, hl0, hl7⟩ := Qm.chk_asc hq
  have HQ := Lib.hid hq
  rw [hq]
  clear hq
  by_cases ha : add < 0
  · have hoo : o = none := by rw [HO.out]; unfold Qm.nxt; rw [if_pos (.inr (.inl ha))]
    subst hoo
    go_wp2_with fail
    go_ret2
    exact ⟨⟨_, rfl, rfl⟩, Below.refl _ _⟩
  by_cases hr : remove < 0
  · have hoo : o = none := by rw [HO.out]; unfold Qm.nxt; rw [if_pos (.inr (.inr (.inl hr)))]
    subst hoo
    go_wp2_with fail
    go_ret2
    exact ⟨⟨_, rfl, rfl⟩, Below.refl _ _⟩
  by_cases h0 : 0 < add
  · go_wp2_with fail
    refine (has_calls A cap l add _ hR hlen).mono ?_
    rintro e w' ⟨rfl, rfl⟩
    by_cases hm : add ∈ l
    · have hoo : o = none := by rw [HO.out]; unfold Qm.nxt; rw [if_pos (.inr (.inr (.inr (.inl hm))))]
      rw [decide_eq_true hm]
      subst hoo
      clear hm
      go_wp2_with fail
      go_ret2
      exact ⟨⟨_, rfl, rfl⟩, Below.refl _ _⟩
    rw [decide_eq_false hm]
    have HM := Lib.hid hm
    clear hm
    by_cases hr0 : 0 < remove
    · go_wp2_with fail
      refine (has_calls A cap l remove _ hR hlen).mono ?_
      rintro e w' ⟨rfl, rfl⟩
      by_cases hm : remove ∈ l
      rotate_left
      · have hoo : o = none := by rw [HO.out]; unfold Qm.nxt; rw [if_pos (.inr (.inr (.inr (.inr ⟨hr0, hm⟩))))]
        rw [decide_eq_false hm]
        subst hoo
        clear hm
        go_wp2_with fail
        go_ret2
        exact ⟨⟨_, rfl, rfl⟩, Below.refl _ _⟩
      rw [decide_eq_true hm]
      have HRM : Hid (0 < remove → remove ∈ l) := Lib.hid (fun _ => hm)
      clear hm
      have hT : Qm.putin add remove (decide (add = 0)) l = Qm.srt (Qm.rest remove (if 0 < add then l ++ [add] else l)) := Qm.putin_srt HQ.out (by omega) HM.out HRM.out
      obtain ⟨T, hTe⟩ : ∃ T, T = Qm.putin add remove (decide (add = 0)) l := ⟨_, rfl⟩
      have hTl : T.length ≤ 8 := by rw [hTe]; have := Qm.putin_len add remove (decide (add = 0)) l; omega
      have hoo : o = if Qm.chk T then some T else none := by
        rw [HO.out]; unfold Qm.nxt
        rw [if_neg (by rintro (h | h | h | h | ⟨h, h'⟩); exact absurd (HQ.out.symm.trans h) (by decide); omega; omega; exact HM.out h; exact h' (HRM.out h)), ← hT, ← hTe]
      have HOO := Lib.hid hoo
      have HTE := Lib.hid hTe
      have HTL := Lib.hid hTl
      have ha0 : (add == 0) = decide (add = 0) := by
        by_cases h : add = 0
        · rw [decide_eq_true h, h]; rfl
        · rw [decide_eq_false h]; simpa using h
      clear hT hTe hTl hoo
      go_wp2_with fail
      go_loopg [8, 9, 10] l.length (fun n v8 v9 v10 W => Below w.heap.size w W ∧ ∃ (k : Nat) (put : Bool), v10 = .int .i64 k ∧ v9 = .bool put ∧ Hid (k + n = l.length ∧ ∃ X, T = X ++ Qm.putin add remove put (l.drop k) ∧ OwnL (layI .i64) 3 W w.heap.size v8 X ∧ (put = false → 0 < add)))
      case atStart => exact ⟨Below.refl _ _, 0, decide (add = 0), rfl, by simp [ha0], Lib.hid ⟨by omega, [], by rw [HTE.out]; simp, OwnL.nil _ _, fun e => by have := of_decide_eq_false e; omega⟩⟩
      case round =>
        obtain ⟨hb, k, put, rfl, rfl, HI⟩ := hrel
        obtain ⟨hkg, X, hX, hown, hpa⟩ := HI.out
        have HPA := Lib.hid hpa
        clear hpa
        have hxl : X.length ≤ 8 := by have := HTL.out; rw [hX, List.length_append] at this; omega
        have HKG := Lib.hid hkg
        have HOW := Lib.hid hown
        have HXL := Lib.hid hxl
        by_cases hlt : k < l.length
        · have hl : (k : Int) < (l.length : Int) := by omega
          have hg : 0 < gk := by omega
          obtain ⟨b, off, rfl, h1, c1⟩ := hR.out.int k hlt
          have c0 := c1
          replace c1 := (hb.cell (p := ⟨b, off + k, none⟩) h1).trans c1
          have hd := Qm.drop_at l k hlt
          generalize l.getD k default = x at *
          rw [hd] at hX
          clear hkg hown hxl HI hd ha0
          cases put with
          | true =>
            by_cases hxr : x = remove
            · have HPT : Hid (T = X ++ Qm.putin add remove true (l.drop (k + 1))) := Lib.hid (by rw [hX]; simp [Qm.putin, hxr])
              clear hX
              subst hxr
              go_wp2_with fail
              go_roundg (gk - 1)
              case rel => exact ⟨hb, k + 1, true, by go_num, rfl, Lib.hid ⟨by have := HKG.out; omega, X, by first | exact HPT.out | (rw [HPT.out]; simp), HOW.out, fun e => (nomatch e)⟩⟩
              case measure => omega
            · have HPT : Hid (T = X ++ ([x] ++ Qm.putin add remove true (l.drop (k + 1)))) := Lib.hid (by rw [hX]; simp [Qm.putin, hxr])
              have hne : (x != remove) = true := by rw [bne_iff_ne]; exact hxr
              clear hX hxr
              go_wp2_with (first
                | (at_builtin
                   refine wpList_appL 45 _ 8 Try.underlying45 infoI rfl rfl (.tmp 69) (.tmp 74) rfl w.heap.size _ X rfl (HOW.out.kept (bel_new (Below.refl _ _) _)) (some ⟨wr.heap.size, 0, none⟩) 1 1 [x] rfl rfl (rdI_one wr x) (by have := HXL.out; simp [maxLen]; omega) (by have := HXL.out; simp; omega) (bel_new hb _).size ?_
                   intro v6 w6 ho6 hgg
                   have hbw6 := Lib.hid (OwnL.grown (w0 := w) (HOW.out.kept (bel_new (Below.refl _ _) _)) (bel_new hb _) (bel_new hb _).size hgg)
                   clear hgg))
              go_roundg (gk - 1)
              case rel => exact ⟨hbw6.out, k + 1, true, by go_num, rfl, Lib.hid ⟨by have := HKG.out; omega, X ++ [x], by first | exact HPT.out | (rw [HPT.out]; simp), ho6, fun e => (nomatch e)⟩⟩
              case measure => omega
          | false =>
            by_cases hax : add < x
            · by_cases hxr : x = remove
              · have HPT : Hid (T = X ++ ([add] ++ Qm.putin add remove true (l.drop (k + 1)))) := Lib.hid (by rw [hX]; simp [Qm.putin, hxr, show add < remove from hxr ▸ hax])
                clear hX
                subst hxr
                go_wp2_with (first
                  | (at_builtin
                     refine wpList_appL 45 _ 8 Try.underlying45 infoI rfl rfl (.tmp 59) (.tmp 61) rfl w.heap.size _ X rfl (HOW.out.kept (bel_new (Below.refl _ _) _)) (some ⟨wr.heap.size, 0, none⟩) 1 1 [add] rfl rfl (rdI_one wr add) (by have := HXL.out; simp [maxLen]; omega) (by have := HXL.out; simp; omega) (bel_new hb _).size ?_
                     intro v5 w5 ho5 hgg
                     have hbw5 := Lib.hid (OwnL.grown (w0 := w) (HOW.out.kept (bel_new (Below.refl _ _) _)) (bel_new hb _) (bel_new hb _).size hgg)
                     have c5 := (hbw5.out.cell (p := ⟨b, off + k, none⟩) h1).trans c0
                     clear hgg))
                go_roundg (gk - 1)
                case rel => exact ⟨hbw5.out, k + 1, true, by go_num, rfl, Lib.hid ⟨by have := HKG.out; omega, X ++ [add], by first | exact HPT.out | (rw [HPT.out]; simp), ho5, fun e => (nomatch e)⟩⟩
                case measure => omega
              · have HPT : Hid (T = X ++ ([add] ++ ([x] ++ Qm.putin add remove true (l.drop (k + 1))))) := Lib.hid (by rw [hX]; simp [Qm.putin, hxr, hax])
                have hne : (x != remove) = true := by rw [bne_iff_ne]; exact hxr
                clear hX hxr
                go_wp2_with (first
                  | (at_builtin
                     refine wpList_appL 45 _ 8 Try.underlying45 infoI rfl rfl (.tmp 59) (.tmp 61) rfl w.heap.size _ X rfl (HOW.out.kept (bel_new (Below.refl _ _) _)) (some ⟨wr.heap.size, 0, none⟩) 1 1 [add] rfl rfl (rdI_one wr add) (by have := HXL.out; simp [maxLen]; omega) (by have := HXL.out; simp; omega) (bel_new hb _).size ?_
                     intro v5 w5 ho5 hgg
                     have hbw5 := Lib.hid (OwnL.grown (w0 := w) (HOW.out.kept (bel_new (Below.refl _ _) _)) (bel_new hb _) (bel_new hb _).size hgg)
                     have c5 := (hbw5.out.cell (p := ⟨b, off + k, none⟩) h1).trans c0
                     clear hgg)
                  | (at_builtin
                     refine wpList_appL 45 _ 8 Try.underlying45 infoI rfl rfl (.tmp 69) (.tmp 74) rfl w.heap.size _ (X ++ [add]) rfl (ho5.kept (bel_new (Below.refl _ _) _)) (some ⟨w5.heap.size, 0, none⟩) 1 1 [x] rfl rfl (rdI_one w5 x) (by have := HXL.out; simp [maxLen]; omega) (by have := HXL.out; simp; omega) (bel_new hbw5.out _).size ?_
                     intro v6 w6 ho6 hgg
                     have hbw6 := Lib.hid (OwnL.grown (w0 := w) (ho5.kept (bel_new (Below.refl _ _) _)) (bel_new hbw5.out _) (bel_new hbw5.out _).size hgg)
                     clear hgg))
                go_roundg (gk - 1)
                case rel => exact ⟨hbw6.out, k + 1, true, by go_num, rfl, Lib.hid ⟨by have := HKG.out; omega, X ++ [add] ++ [x], by first | exact HPT.out | (rw [HPT.out]; simp), ho6, fun e => (nomatch e)⟩⟩
                case measure => omega
            · by_cases hxr : x = remove
              · have HPT : Hid (T = X ++ Qm.putin add remove false (l.drop (k + 1))) := Lib.hid (by rw [hX]; simp [Qm.putin, hxr, show ¬ add < remove from hxr ▸ hax])
                clear hX
                subst hxr
                go_wp2_with fail
                go_roundg (gk - 1)
                case rel => exact ⟨hb, k + 1, false, by go_num, rfl, Lib.hid ⟨by have := HKG.out; omega, X, by first | exact HPT.out | (rw [HPT.out]; simp), HOW.out, fun _ => HPA.out (by trivial)⟩⟩
                case measure => omega
              · have HPT : Hid (T = X ++ ([x] ++ Qm.putin add remove false (l.drop (k + 1)))) := Lib.hid (by rw [hX]; simp [Qm.putin, hxr, hax])
                have hne : (x != remove) = true := by rw [bne_iff_ne]; exact hxr
                clear hX hxr
                go_wp2_with (first
                  | (at_builtin
                     refine wpList_appL 45 _ 8 Try.underlying45 infoI rfl rfl (.tmp 69) (.tmp 74) rfl w.heap.size _ X rfl (HOW.out.kept (bel_new (Below.refl _ _) _)) (some ⟨wr.heap.size, 0, none⟩) 1 1 [x] rfl rfl (rdI_one wr x) (by have := HXL.out; simp [maxLen]; omega) (by have := HXL.out; simp; omega) (bel_new hb _).size ?_
                     intro v6 w6 ho6 hgg
                     have hbw6 := Lib.hid (OwnL.grown (w0 := w) (HOW.out.kept (bel_new (Below.refl _ _) _)) (bel_new hb _) (bel_new hb _).size hgg)
                     clear hgg))
                go_roundg (gk - 1)
                case rel => exact ⟨hbw6.out, k + 1, false, by go_num, rfl, Lib.hid ⟨by have := HKG.out; omega, X ++ [x], by first | exact HPT.out | (rw [HPT.out]; simp), ho6, fun _ => HPA.out (by trivial)⟩⟩
                case measure => omega
        · have hl : ¬ (k : Int) < (l.length : Int) := by omega
          rw [List.drop_eq_nil_of_le (by omega)] at hX
          clear hkg hown hxl HI ha0 hlt
          cases put with
          | true =>
            have hXT : T = X := by rw [hX]; simp [Qm.putin]
            have HXT := Lib.hid hXT
            obtain ⟨AX, cX, rfl, _, _, hRX, _⟩ := HOW.out.form
            have HRX := Lib.hid hRX
            clear hX hXT hRX
            go_wp2_with fail
            refine (qrcheck_calls AX cX X wr HRX (by have := HXL.out; omega)).mono ?_
            rintro e w' ⟨rfl, rfl⟩
            rw [HXT.out] at HOO
            by_cases hcs : Qm.chk X = true
            · have hoo : o = some X := by rw [HOO.out, if_pos hcs]
              have HO3 := Lib.hid hoo
              rw [hcs]
              clear hcs hoo
              go_wp2_with fail
              go_ret2
              rw [HO3.out]
              exact ⟨⟨_, rfl, ⟨_, rfl, HOW.out⟩⟩, hb⟩
            · have hcs' : Qm.chk X = false := by simpa using hcs
              have hoo : o = none := by rw [HOO.out, if_neg hcs]
              have HO3 := Lib.hid hoo
              rw [hcs']
              clear hcs hcs' hoo
              go_wp2_with fail
              go_ret2
              rw [HO3.out]
              exact ⟨⟨_, rfl, rfl⟩, hb⟩
          | false =>
            have hXT : T = X ++ [add] := by rw [hX]; simp [Qm.putin]
            have HXT := Lib.hid hXT
            clear hX hXT
            go_wp2_with (first
              | (at_builtin
                 refine wpList_appL 45 _ 8 Try.underlying45 infoI rfl rfl (.tmp 78) (.tmp 80) rfl w.heap.size _ X rfl (HOW.out.kept (bel_new (Below.refl _ _) _)) (some ⟨wr.heap.size, 0, none⟩) 1 1 [add] rfl rfl (rdI_one wr add) (by have := HXL.out; simp [maxLen]; omega) (by have := HXL.out; simp; omega) (bel_new hb _).size ?_
                 intro v5 w5 ho5 hgg
                 have hbw5 := Lib.hid (OwnL.grown (w0 := w) (HOW.out.kept (bel_new (Below.refl _ _) _)) (bel_new hb _) (bel_new hb _).size hgg)
                 clear hgg))
            rw [← HXT.out] at ho5
            have HO5 := Lib.hid ho5
            obtain ⟨AX, cX, rfl, _, _, hRX, _⟩ := ho5.form
            have HRX := Lib.hid hRX
            clear ho5 hRX
            go_wp2_with fail
            refine (qrcheck_calls AX cX T w5 HRX (by have := HTL.out; omega)).mono ?_
            rintro e w' ⟨rfl, rfl⟩
            by_cases hcs : Qm.chk T = true
            · have hoo : o = some T := by rw [HOO.out, if_pos hcs]
              have HO3 := Lib.hid hoo
              rw [hcs]
              clear hcs hoo
              go_wp2_with fail
              go_ret2
              rw [HO3.out]
              exact ⟨⟨_, rfl, ⟨_, rfl, HO5.out⟩⟩, hbw5.out⟩
            · have hcs' : Qm.chk T = false := by simpa using hcs
              have hoo : o = none := by rw [HOO.out, if_neg hcs]
              have HO3 := Lib.hid hoo
              rw [hcs']
              clear hcs hcs' hoo
              go_wp2_with fail
              go_ret2
              rw [HO3.out]
              exact ⟨⟨_, rfl, rfl⟩, hbw5.out⟩
    · have HRM : Hid (0 < remove → remove ∈ l) := Lib.hid (fun h => absurd h hr0)
      have hT : Qm.putin add remove (decide (add = 0)) l = Qm.srt (Qm.rest remove (if 0 < add then l ++ [add] else l)) := Qm.putin_srt HQ.out (by omega) HM.out HRM.out
      obtain ⟨T, hTe⟩ : ∃ T, T = Qm.putin add remove (decide (add = 0)) l := ⟨_, rfl⟩
      have hTl : T.length ≤ 8 := by rw [hTe]; have := Qm.putin_len add remove (decide (add = 0)) l; omega
      have hoo : o = if Qm.chk T then some T else none := by
        rw [HO.out]; unfold Qm.nxt
        rw [if_neg (by rintro (h | h | h | h | ⟨h, h'⟩); exact absurd (HQ.out.symm.trans h) (by decide); omega; omega; exact HM.out h; exact h' (HRM.out h)), ← hT, ← hTe]
      have HOO := Lib.hid hoo
      have HTE := Lib.hid hTe
      have HTL := Lib.hid hTl
      have ha0 : (add == 0) = decide (add = 0) := by
        by_cases h : add = 0
        · rw [decide_eq_true h, h]; rfl
        · rw [decide_eq_false h]; simpa using h
      clear hT hTe hTl hoo
      go_wp2_with fail
      go_loopg [8, 9, 10] l.length (fun n v8 v9 v10 W => Below w.heap.size w W ∧ ∃ (k : Nat) (put : Bool), v10 = .int .i64 k ∧ v9 = .bool put ∧ Hid (k + n = l.length ∧ ∃ X, T = X ++ Qm.putin add remove put (l.drop k) ∧ OwnL (layI .i64) 3 W w.heap.size v8 X ∧ (put = false → 0 < add)))
      case atStart => exact ⟨Below.refl _ _, 0, decide (add = 0), rfl, by simp [ha0], Lib.hid ⟨by omega, [], by rw [HTE.out]; simp, OwnL.nil _ _, fun e => by have := of_decide_eq_false e; omega⟩⟩
      case round =>
        obtain ⟨hb, k, put, rfl, rfl, HI⟩ := hrel
        obtain ⟨hkg, X, hX, hown, hpa⟩ := HI.out
        have HPA := Lib.hid hpa
        clear hpa
        have hxl : X.length ≤ 8 := by have := HTL.out; rw [hX, List.length_append] at this; omega
        have HKG := Lib.hid hkg
        have HOW := Lib.hid hown
        have HXL := Lib.hid hxl
        by_cases hlt : k < l.length
        · have hl : (k : Int) < (l.length : Int) := by omega
          have hg : 0 < gk := by omega
          obtain ⟨b, off, rfl, h1, c1⟩ := hR.out.int k hlt
          have c0 := c1
          replace c1 := (hb.cell (p := ⟨b, off + k, none⟩) h1).trans c1
          have hd := Qm.drop_at l k hlt
          generalize l.getD k default = x at *
          rw [hd] at hX
          clear hkg hown hxl HI hd ha0
          cases put with
          | true =>
            by_cases hxr : x = remove
            · have HPT : Hid (T = X ++ Qm.putin add remove true (l.drop (k + 1))) := Lib.hid (by rw [hX]; simp [Qm.putin, hxr])
              clear hX
              subst hxr
              go_wp2_with fail
              go_roundg (gk - 1)
              case rel => exact ⟨hb, k + 1, true, by go_num, rfl, Lib.hid ⟨by have := HKG.out; omega, X, by first | exact HPT.out | (rw [HPT.out]; simp), HOW.out, fun e => (nomatch e)⟩⟩
              case measure => omega
            · have HPT : Hid (T = X ++ ([x] ++ Qm.putin add remove true (l.drop (k + 1)))) := Lib.hid (by rw [hX]; simp [Qm.putin, hxr])
              have hne : (x != remove) = true := by rw [bne_iff_ne]; exact hxr
              clear hX hxr
              go_wp2_with (first
                | (at_builtin
                   refine wpList_appL 45 _ 8 Try.underlying45 infoI rfl rfl (.tmp 69) (.tmp 74) rfl w.heap.size _ X rfl (HOW.out.kept (bel_new (Below.refl _ _) _)) (some ⟨wr.heap.size, 0, none⟩) 1 1 [x] rfl rfl (rdI_one wr x) (by have := HXL.out; simp [maxLen]; omega) (by have := HXL.out; simp; omega) (bel_new hb _).size ?_
                   intro v6 w6 ho6 hgg
                   have hbw6 := Lib.hid (OwnL.grown (w0 := w) (HOW.out.kept (bel_new (Below.refl _ _) _)) (bel_new hb _) (bel_new hb _).size hgg)
                   clear hgg))
              go_roundg (gk - 1)
              case rel => exact ⟨hbw6.out, k + 1, true, by go_num, rfl, Lib.hid ⟨by have := HKG.out; omega, X ++ [x], by first | exact HPT.out | (rw [HPT.out]; simp), ho6, fun e => (nomatch e)⟩⟩
              case measure => omega
          | false =>
            by_cases hax : add < x
            · by_cases hxr : x = remove
              · have HPT : Hid (T = X ++ ([add] ++ Qm.putin add remove true (l.drop (k + 1)))) := Lib.hid (by rw [hX]; simp [Qm.putin, hxr, show add < remove from hxr ▸ hax])
                exfalso
                have := HPA.out (by trivial)
                omega
              · have HPT : Hid (T = X ++ ([add] ++ ([x] ++ Qm.putin add remove true (l.drop (k + 1))))) := Lib.hid (by rw [hX]; simp [Qm.putin, hxr, hax])
                have hne : (x != remove) = true := by rw [bne_iff_ne]; exact hxr
                clear hX hxr
                go_wp2_with (first
                  | (at_builtin
                     refine wpList_appL 45 _ 8 Try.underlying45 infoI rfl rfl (.tmp 59) (.tmp 61) rfl w.heap.size _ X rfl (HOW.out.kept (bel_new (Below.refl _ _) _)) (some ⟨wr.heap.size, 0, none⟩) 1 1 [add] rfl rfl (rdI_one wr add) (by have := HXL.out; simp [maxLen]; omega) (by have := HXL.out; simp; omega) (bel_new hb _).size ?_
                     intro v5 w5 ho5 hgg
                     have hbw5 := Lib.hid (OwnL.grown (w0 := w) (HOW.out.kept (bel_new (Below.refl _ _) _)) (bel_new hb _) (bel_new hb _).size hgg)
                     have c5 := (hbw5.out.cell (p := ⟨b, off + k, none⟩) h1).trans c0
                     clear hgg)
                  | (at_builtin
                     refine wpList_appL 45 _ 8 Try.underlying45 infoI rfl rfl (.tmp 69) (.tmp 74) rfl w.heap.size _ (X ++ [add]) rfl (ho5.kept (bel_new (Below.refl _ _) _)) (some ⟨w5.heap.size, 0, none⟩) 1 1 [x] rfl rfl (rdI_one w5 x) (by have := HXL.out; simp [maxLen]; omega) (by have := HXL.out; simp; omega) (bel_new hbw5.out _).size ?_
                     intro v6 w6 ho6 hgg
                     have hbw6 := Lib.hid (OwnL.grown (w0 := w) (ho5.kept (bel_new (Below.refl _ _) _)) (bel_new hbw5.out _) (bel_new hbw5.out _).size hgg)
                     clear hgg))
                go_roundg (gk - 1)
                case rel => exact ⟨hbw6.out, k + 1, true, by go_num, rfl, Lib.hid ⟨by have := HKG.out; omega, X ++ [add] ++ [x], by first | exact HPT.out | (rw [HPT.out]; simp), ho6, fun e => (nomatch e)⟩⟩
                case measure => omega
            · by_cases hxr : x = remove
              · have HPT : Hid (T = X ++ Qm.putin add remove false (l.drop (k + 1))) := Lib.hid (by rw [hX]; simp [Qm.putin, hxr, show ¬ add < remove from hxr ▸ hax])
                clear hX
                subst hxr
                go_wp2_with fail
                go_roundg (gk - 1)
                case rel => exact ⟨hb, k + 1, false, by go_num, rfl, Lib.hid ⟨by have := HKG.out; omega, X, by first | exact HPT.out | (rw [HPT.out]; simp), HOW.out, fun _ => HPA.out (by trivial)⟩⟩
                case measure => omega
              · have HPT : Hid (T = X ++ ([x] ++ Qm.putin add remove false (l.drop (k + 1)))) := Lib.hid (by rw [hX]; simp [Qm.putin, hxr, hax])
                have hne : (x != remove) = true := by rw [bne_iff_ne]; exact hxr
                clear hX hxr
                go_wp2_with (first
                  | (at_builtin
                     refine wpList_appL 45 _ 8 Try.underlying45 infoI rfl rfl (.tmp 69) (.tmp 74) rfl w.heap.size _ X rfl (HOW.out.kept (bel_new (Below.refl _ _) _)) (some ⟨wr.heap.size, 0, none⟩) 1 1 [x] rfl rfl (rdI_one wr x) (by have := HXL.out; simp [maxLen]; omega) (by have := HXL.out; simp; omega) (bel_new hb _).size ?_
                     intro v6 w6 ho6 hgg
                     have hbw6 := Lib.hid (OwnL.grown (w0 := w) (HOW.out.kept (bel_new (Below.refl _ _) _)) (bel_new hb _) (bel_new hb _).size hgg)
                     clear hgg))
                go_roundg (gk - 1)
                case rel => exact ⟨hbw6.out, k + 1, false, by go_num, rfl, Lib.hid ⟨by have := HKG.out; omega, X ++ [x], by first | exact HPT.out | (rw [HPT.out]; simp), ho6, fun _ => HPA.out (by trivial)⟩⟩
                case measure => omega
        · have hl : ¬ (k : Int) < (l.length : Int) := by omega
          rw [List.drop_eq_nil_of_le (by omega)] at hX
          clear hkg hown hxl HI ha0 hlt
          cases put with
          | true =>
            have hXT : T = X := by rw [hX]; simp [Qm.putin]
            have HXT := Lib.hid hXT
            obtain ⟨AX, cX, rfl, _, _, hRX, _⟩ := HOW.out.form
            have HRX := Lib.hid hRX
            clear hX hXT hRX
            go_wp2_with fail
            refine (qrcheck_calls AX cX X wr HRX (by have := HXL.out; omega)).mono ?_
            rintro e w' ⟨rfl, rfl⟩
            rw [HXT.out] at HOO
            by_cases hcs : Qm.chk X = true
            · have hoo : o = some X := by rw [HOO.out, if_pos hcs]
              have HO3 := Lib.hid hoo
              rw [hcs]
              clear hcs hoo
              go_wp2_with fail
              go_ret2
              rw [HO3.out]
              exact ⟨⟨_, rfl, ⟨_, rfl, HOW.out⟩⟩, hb⟩
            · have hcs' : Qm.chk X = false := by simpa using hcs
              have hoo : o = none := by rw [HOO.out, if_neg hcs]
              have HO3 := Lib.hid hoo
              rw [hcs']
              clear hcs hcs' hoo
              go_wp2_with fail
              go_ret2
              rw [HO3.out]
              exact ⟨⟨_, rfl, rfl⟩, hb⟩
          | false =>
            have hXT : T = X ++ [add] := by rw [hX]; simp [Qm.putin]
            have HXT := Lib.hid hXT
            clear hX hXT
            go_wp2_with (first
              | (at_builtin
                 refine wpList_appL 45 _ 8 Try.underlying45 infoI rfl rfl (.tmp 78) (.tmp 80) rfl w.heap.size _ X rfl (HOW.out.kept (bel_new (Below.refl _ _) _)) (some ⟨wr.heap.size, 0, none⟩) 1 1 [add] rfl rfl (rdI_one wr add) (by have := HXL.out; simp [maxLen]; omega) (by have := HXL.out; simp; omega) (bel_new hb _).size ?_
                 intro v5 w5 ho5 hgg
                 have hbw5 := Lib.hid (OwnL.grown (w0 := w) (HOW.out.kept (bel_new (Below.refl _ _) _)) (bel_new hb _) (bel_new hb _).size hgg)
                 clear hgg))
            rw [← HXT.out] at ho5
            have HO5 := Lib.hid ho5
            obtain ⟨AX, cX, rfl, _, _, hRX, _⟩ := ho5.form
            have HRX := Lib.hid hRX
            clear ho5 hRX
            go_wp2_with fail
            refine (qrcheck_calls AX cX T w5 HRX (by have := HTL.out; omega)).mono ?_
            rintro e w' ⟨rfl, rfl⟩
            by_cases hcs : Qm.chk T = true
            · have hoo : o = some T := by rw [HOO.out, if_pos hcs]
              have HO3 := Lib.hid hoo
              rw [hcs]
              clear hcs hoo
              go_wp2_with fail
              go_ret2
              rw [HO3.out]
              exact ⟨⟨_, rfl, ⟨_, rfl, HO5.out⟩⟩, hbw5.out⟩
            · have hcs' : Qm.chk T = false := by simpa using hcs
              have hoo : o = none := by rw [HOO.out, if_neg hcs]
              have HO3 := Lib.hid hoo
              rw [hcs']
              clear hcs hcs' hoo
              go_wp2_with fail
              go_ret2
              rw [HO3.out]
              exact ⟨⟨_, rfl, rfl⟩, hbw5.out⟩
  · have HM : Hid (add ∉ l) := Lib.hid (fun h => by have := Qm.asc_lt (Qm.chk_asc HQ.out).1 add h; omega)
    by_cases hr0 : 0 < remove
    · go_wp2_with fail
      refine (has_calls A cap l remove _ hR hlen).mono ?_
      rintro e w' ⟨rfl, rfl⟩
      by_cases hm : remove ∈ l
      rotate_left
      · have hoo : o = none := by rw [HO.out]; unfold Qm.nxt; rw [if_pos (.inr (.inr (.inr (.inr ⟨hr0, hm⟩))))]
        rw [decide_eq_false hm]
        subst hoo
        clear hm
        go_wp2_with fail
        go_ret2
        exact ⟨⟨_, rfl, rfl⟩, Below.refl _ _⟩
      rw [decide_eq_true hm]
      have HRM : Hid (0 < remove → remove ∈ l) := Lib.hid (fun _ => hm)
      clear hm
      have hT : Qm.putin add remove (decide (add = 0)) l = Qm.srt (Qm.rest remove (if 0 < add then l ++ [add] else l)) := Qm.putin_srt HQ.out (by omega) HM.out HRM.out
      obtain ⟨T, hTe⟩ : ∃ T, T = Qm.putin add remove (decide (add = 0)) l := ⟨_, rfl⟩
      have hTl : T.length ≤ 8 := by rw [hTe]; have := Qm.putin_len add remove (decide (add = 0)) l; omega
      have hoo : o = if Qm.chk T then some T else none := by
        rw [HO.out]; unfold Qm.nxt
        rw [if_neg (by rintro (h | h | h | h | ⟨h, h'⟩); exact absurd (HQ.out.symm.trans h) (by decide); omega; omega; exact HM.out h; exact h' (HRM.out h)), ← hT, ← hTe]
      have HOO := Lib.hid hoo
      have HTE := Lib.hid hTe
      have HTL := Lib.hid hTl
      have ha0 : (add == 0) = decide (add = 0) := by
        by_cases h : add = 0
        · rw [decide_eq_true h, h]; rfl
        · rw [decide_eq_false h]; simpa using h
      clear hT hTe hTl hoo
      go_wp2_with fail
      go_loopg [8, 9, 10] l.length (fun n v8 v9 v10 W => Below w.heap.size w W ∧ ∃ (k : Nat) (put : Bool), v10 = .int .i64 k ∧ v9 = .bool put ∧ Hid (k + n = l.length ∧ ∃ X, T = X ++ Qm.putin add remove put (l.drop k) ∧ OwnL (layI .i64) 3 W w.heap.size v8 X ∧ (put = false → 0 < add)))
      case atStart => exact ⟨Below.refl _ _, 0, decide (add = 0), rfl, by simp [ha0], Lib.hid ⟨by omega, [], by rw [HTE.out]; simp, OwnL.nil _ _, fun e => by have := of_decide_eq_false e; omega⟩⟩
      case round =>
        obtain ⟨hb, k, put, rfl, rfl, HI⟩ := hrel
        obtain ⟨hkg, X, hX, hown, hpa⟩ := HI.out
        have HPA := Lib.hid hpa
        clear hpa
        have hxl : X.length ≤ 8 := by have := HTL.out; rw [hX, List.length_append] at this; omega
        have HKG := Lib.hid hkg
        have HOW := Lib.hid hown
        have HXL := Lib.hid hxl
        by_cases hlt : k < l.length
        · have hl : (k : Int) < (l.length : Int) := by omega
          have hg : 0 < gk := by omega
          obtain ⟨b, off, rfl, h1, c1⟩ := hR.out.int k hlt
          have c0 := c1
          replace c1 := (hb.cell (p := ⟨b, off + k, none⟩) h1).trans c1
          have hd := Qm.drop_at l k hlt
          generalize l.getD k default = x at *
          rw [hd] at hX
          clear hkg hown hxl HI hd ha0
          cases put with
          | true =>
            by_cases hxr : x = remove
            · have HPT : Hid (T = X ++ Qm.putin add remove true (l.drop (k + 1))) := Lib.hid (by rw [hX]; simp [Qm.putin, hxr])
              clear hX
              subst hxr
              go_wp2_with fail
              go_roundg (gk - 1)
              case rel => exact ⟨hb, k + 1, true, by go_num, rfl, Lib.hid ⟨by have := HKG.out; omega, X, by first | exact HPT.out | (rw [HPT.out]; simp), HOW.out, fun e => (nomatch e)⟩⟩
              case measure => omega
            · have HPT : Hid (T = X ++ ([x] ++ Qm.putin add remove true (l.drop (k + 1)))) := Lib.hid (by rw [hX]; simp [Qm.putin, hxr])
              have hne : (x != remove) = true := by rw [bne_iff_ne]; exact hxr
              clear hX hxr
              go_wp2_with (first
                | (at_builtin
                   refine wpList_appL 45 _ 8 Try.underlying45 infoI rfl rfl (.tmp 69) (.tmp 74) rfl w.heap.size _ X rfl (HOW.out.kept (bel_new (Below.refl _ _) _)) (some ⟨wr.heap.size, 0, none⟩) 1 1 [x] rfl rfl (rdI_one wr x) (by have := HXL.out; simp [maxLen]; omega) (by have := HXL.out; simp; omega) (bel_new hb _).size ?_
                   intro v6 w6 ho6 hgg
                   have hbw6 := Lib.hid (OwnL.grown (w0 := w) (HOW.out.kept (bel_new (Below.refl _ _) _)) (bel_new hb _) (bel_new hb _).size hgg)
                   clear hgg))
              go_roundg (gk - 1)
              case rel => exact ⟨hbw6.out, k + 1, true, by go_num, rfl, Lib.hid ⟨by have := HKG.out; omega, X ++ [x], by first | exact HPT.out | (rw [HPT.out]; simp), ho6, fun e => (nomatch e)⟩⟩
              case measure => omega
          | false => exact absurd (HPA.out (by trivial)) (by omega)
        · have hl : ¬ (k : Int) < (l.length : Int) := by omega
          rw [List.drop_eq_nil_of_le (by omega)] at hX
          clear hkg hown hxl HI ha0 hlt
          cases put with
          | true =>
            have hXT : T = X := by rw [hX]; simp [Qm.putin]
            have HXT := Lib.hid hXT
            obtain ⟨AX, cX, rfl, _, _, hRX, _⟩ := HOW.out.form
            have HRX := Lib.hid hRX
            clear hX hXT hRX
            go_wp2_with fail
            refine (qrcheck_calls AX cX X wr HRX (by have := HXL.out; omega)).mono ?_
            rintro e w' ⟨rfl, rfl⟩
            rw [HXT.out] at HOO
            by_cases hcs : Qm.chk X = true
            · have hoo : o = some X := by rw [HOO.out, if_pos hcs]
              have HO3 := Lib.hid hoo
              rw [hcs]
              clear hcs hoo
              go_wp2_with fail
              go_ret2
              rw [HO3.out]
              exact ⟨⟨_, rfl, ⟨_, rfl, HOW.out⟩⟩, hb⟩
            · have hcs' : Qm.chk X = false := by simpa using hcs
              have hoo : o = none := by rw [HOO.out, if_neg hcs]
              have HO3 := Lib.hid hoo
              rw [hcs']
              clear hcs hcs' hoo
              go_wp2_with fail
              go_ret2
              rw [HO3.out]
              exact ⟨⟨_, rfl, rfl⟩, hb⟩
          | false => exact absurd (HPA.out (by trivial)) (by omega)
    · have HRM : Hid (0 < remove → remove ∈ l) := Lib.hid (fun h => absurd h hr0)
      have hT : Qm.putin add remove (decide (add = 0)) l = Qm.srt (Qm.rest remove (if 0 < add then l ++ [add] else l)) := Qm.putin_srt HQ.out (by omega) HM.out HRM.out
      obtain ⟨T, hTe⟩ : ∃ T, T = Qm.putin add remove (decide (add = 0)) l := ⟨_, rfl⟩
      have hTl : T.length ≤ 8 := by rw [hTe]; have := Qm.putin_len add remove (decide (add = 0)) l; omega
      have hoo : o = if Qm.chk T then some T else none := by
        rw [HO.out]; unfold Qm.nxt
        rw [if_neg (by rintro (h | h | h | h | ⟨h, h'⟩); exact absurd (HQ.out.symm.trans h) (by decide); omega; omega; exact HM.out h; exact h' (HRM.out h)), ← hT, ← hTe]
      have HOO := Lib.hid hoo
      have HTE := Lib.hid hTe
      have HTL := Lib.hid hTl
      have ha0 : (add == 0) = decide (add = 0) := by
        by_cases h : add = 0
        · rw [decide_eq_true h, h]; rfl
        · rw [decide_eq_false h]; simpa using h
      clear hT hTe hTl hoo
      go_wp2_with fail
      go_loopg [8, 9, 10] l.length (fun n v8 v9 v10 W => Below w.heap.size w W ∧ ∃ (k : Nat) (put : Bool), v10 = .int .i64 k ∧ v9 = .bool put ∧ Hid (k + n = l.length ∧ ∃ X, T = X ++ Qm.putin add remove put (l.drop k) ∧ OwnL (layI .i64) 3 W w.heap.size v8 X ∧ (put = false → 0 < add)))
      case atStart => exact ⟨Below.refl _ _, 0, decide (add = 0), rfl, by simp [ha0], Lib.hid ⟨by omega, [], by rw [HTE.out]; simp, OwnL.nil _ _, fun e => by have := of_decide_eq_false e; omega⟩⟩
      case round =>
        obtain ⟨hb, k, put, rfl, rfl, HI⟩ := hrel
        obtain ⟨hkg, X, hX, hown, hpa⟩ := HI.out
        have HPA := Lib.hid hpa
        clear hpa
        have hxl : X.length ≤ 8 := by have := HTL.out; rw [hX, List.length_append] at this; omega
        have HKG := Lib.hid hkg
        have HOW := Lib.hid hown
        have HXL := Lib.hid hxl
        by_cases hlt : k < l.length
        · have hl : (k : Int) < (l.length : Int) := by omega
          have hg : 0 < gk := by omega
          obtain ⟨b, off, rfl, h1, c1⟩ := hR.out.int k hlt
          have c0 := c1
          replace c1 := (hb.cell (p := ⟨b, off + k, none⟩) h1).trans c1
          have hd := Qm.drop_at l k hlt
          generalize l.getD k default = x at *
          rw [hd] at hX
          clear hkg hown hxl HI hd ha0
          cases put with
          | true =>
            by_cases hxr : x = remove
            · have HPT : Hid (T = X ++ Qm.putin add remove true (l.drop (k + 1))) := Lib.hid (by rw [hX]; simp [Qm.putin, hxr])
              clear hX
              subst hxr
              go_wp2_with fail
              go_roundg (gk - 1)
              case rel => exact ⟨hb, k + 1, true, by go_num, rfl, Lib.hid ⟨by have := HKG.out; omega, X, by first | exact HPT.out | (rw [HPT.out]; simp), HOW.out, fun e => (nomatch e)⟩⟩
              case measure => omega
            · have HPT : Hid (T = X ++ ([x] ++ Qm.putin add remove true (l.drop (k + 1)))) := Lib.hid (by rw [hX]; simp [Qm.putin, hxr])
              have hne : (x != remove) = true := by rw [bne_iff_ne]; exact hxr
              clear hX hxr
              go_wp2_with (first
                | (at_builtin
                   refine wpList_appL 45 _ 8 Try.underlying45 infoI rfl rfl (.tmp 69) (.tmp 74) rfl w.heap.size _ X rfl (HOW.out.kept (bel_new (Below.refl _ _) _)) (some ⟨wr.heap.size, 0, none⟩) 1 1 [x] rfl rfl (rdI_one wr x) (by have := HXL.out; simp [maxLen]; omega) (by have := HXL.out; simp; omega) (bel_new hb _).size ?_
                   intro v6 w6 ho6 hgg
                   have hbw6 := Lib.hid (OwnL.grown (w0 := w) (HOW.out.kept (bel_new (Below.refl _ _) _)) (bel_new hb _) (bel_new hb _).size hgg)
                   clear hgg))
              go_roundg (gk - 1)
              case rel => exact ⟨hbw6.out, k + 1, true, by go_num, rfl, Lib.hid ⟨by have := HKG.out; omega, X ++ [x], by first | exact HPT.out | (rw [HPT.out]; simp), ho6, fun e => (nomatch e)⟩⟩
              case measure => omega
          | false => exact absurd (HPA.out (by trivial)) (by omega)
        · have hl : ¬ (k : Int) < (l.length : Int) := by omega
          rw [List.drop_eq_nil_of_le (by omega)] at hX
          clear hkg hown hxl HI ha0 hlt
          cases put with
          | true =>
            have hXT : T = X := by rw [hX]; simp [Qm.putin]
            have HXT := Lib.hid hXT
            obtain ⟨AX, cX, rfl, _, _, hRX, _⟩ := HOW.out.form
            have HRX := Lib.hid hRX
            clear hX hXT hRX
            go_wp2_with fail
            refine (qrcheck_calls AX cX X wr HRX (by have := HXL.out; omega)).mono ?_
            rintro e w' ⟨rfl, rfl⟩
            rw [HXT.out] at HOO
            by_cases hcs : Qm.chk X = true
            · have hoo : o = some X := by rw [HOO.out, if_pos hcs]
              have HO3 := Lib.hid hoo
              rw [hcs]
              clear hcs hoo
              go_wp2_with fail
              go_ret2
              rw [HO3.out]
              exact ⟨⟨_, rfl, ⟨_, rfl, HOW.out⟩⟩, hb⟩
            · have hcs' : Qm.chk X = false := by simpa using hcs
              have hoo : o = none := by rw [HOO.out, if_neg hcs]
              have HO3 := Lib.hid hoo
              rw [hcs']
              clear hcs hcs' hoo
              go_wp2_with fail
              go_ret2
              rw [HO3.out]
              exact ⟨⟨_, rfl, rfl⟩, hb⟩
          | false => exact absurd (HPA.out (by trivial)) (by omega)
end Go.Proofs.Ytdladjgdhnkkcaa
