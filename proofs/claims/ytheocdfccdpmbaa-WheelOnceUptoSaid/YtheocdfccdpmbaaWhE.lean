/-
  Contract: the answers that the document fixes, for a wheel.
  No condition.
-/
import Derived.Test.YtheocdfccdpmbaaWhC
namespace Go.Proofs.Ytheocdfccdpmbaa
open Go.RowKit Go.Maps
set_option linter.unusedVariables false
set_option linter.unusedSimpArgs false
set_option maxHeartbeats 8000000

theorem new_ok (now : Int) (h0 : 0 ≤ now) (h1 : now ≤ 226157759) (w : World) :
    Calls Try.prog 14 #[.int .i64 now] w fun e w' => ∃ g mb, e = .returned (.tuple #[.pointer (some ⟨g, 0, none⟩), .int .i64 0]) ∧ One w g mb now [] w' :=
  (new_calls now w).mono fun e w' h => by unfold NewTo at h; rwa [if_pos ⟨h0, h1⟩] at h
theorem new_no (now : Int) (h : ¬ (0 ≤ now ∧ now ≤ 226157759)) (w : World) :
    Calls Try.prog 14 #[.int .i64 now] w fun e w' => e = .returned (.tuple #[.pointer none, .int .i64 30]) ∧ w = w' :=
  (new_calls now w).mono fun e w' h2 => by unfold NewTo at h2; rwa [if_neg h] at h2
theorem adv_ok {w0 W : World} {d : Wd} {o : Option Wd} {rows : List (Value × List Itm)} (H : Hid (Stt w0 d o rows W)) (to : Int) (h : advE d.now to = 0) :
    Calls Try.prog 16 #[.pointer (some ⟨d.g, 0, none⟩), .int .i64 to] W fun e w' => ∃ A cap, e = .returned (.tuple #[.slice A (Wh.upto to d.S).length cap, .int .i64 0]) ∧ Stt w0 ⟨d.g, d.mb, to, Wh.past to d.S⟩ o ((.slice A (Wh.upto to d.S).length cap, Wh.upto to d.S) :: rows) w' :=
  (advance_st H to).mono fun e w' h2 => by unfold AdvS at h2; rwa [if_pos h] at h2
theorem adv_no {w0 W : World} {d : Wd} {o : Option Wd} {rows : List (Value × List Itm)} (H : Hid (Stt w0 d o rows W)) (to : Int) (h : advE d.now to ≠ 0) :
    Calls Try.prog 16 #[.pointer (some ⟨d.g, 0, none⟩), .int .i64 to] W fun e w' => e = .returned (.tuple #[.slice none 0 0, .int .i64 30]) ∧ Stt w0 d o rows w' :=
  (advance_st H to).mono fun e w' h2 => by unfold AdvS at h2; rwa [if_neg h] at h2
theorem rdL_lit2 {α : Type} [Inhabited α] {L : Lay α} (w : World) (e : TypeId) (xs : List α) (hm : xs.length ≤ maxLen) (cs : Array Value) (hc : cs = (L.flat xs).toArray) : RdL L (w.alloc (.cells cs e)) (some ⟨w.heap.size, 0, none⟩) xs := rdL_lit w e xs hm cs hc
theorem aw1 : Wh.insE 10 [] ⟨1, 12⟩ = 0 := by decide
theorem aw2 : Wh.insE 10 [⟨1, 12⟩] ⟨2, 5000⟩ = 0 := by decide
theorem aw3 : advE 10 4999 = 0 := by decide
theorem aw4 : (Wh.upto 4999 [⟨1, 12⟩, ⟨2, 5000⟩]).length = 1 := by decide
theorem aw5 : advE 4999 5000 = 0 := by decide
theorem aw6 : (Wh.upto 5000 [⟨2, 5000⟩]).length = 1 := by decide
set_option maxRecDepth 20000 in
theorem wheel_awake (w : World) : Calls Try.prog 13 #[] w fun e w' => e = .returned (.bool true) ∧ Below w.heap.size w w' := by
  go_enter Try.func13, Try.ntmps13
  go_wp2_with fail
  refine (new_ok 10 (by omega) (by omega) _).mono ?_
  rintro e w1 ⟨g, mb, rfl, h1⟩
  have H1 := Lib.hid (Stt.of_one h1)
  clear h1
  go_wp2_with fail
  refine (insert_st H1 ⟨1, 12⟩ (by decide) (by decide)).mono ?_
  rintro e w2 ⟨rfl, h2⟩
  have H2 : Hid (Stt w ⟨g, mb, 10, [⟨1, 12⟩]⟩ none [] w2) := Lib.hid h2
  rw [show Wh.insE (⟨g, mb, 10, []⟩ : Wd).now (⟨g, mb, 10, []⟩ : Wd).S ⟨1, 12⟩ = 0 from aw1]
  clear h2 H1
  go_wp2_with fail
  refine (insert_st H2 ⟨2, 5000⟩ (by decide) (by decide)).mono ?_
  rintro e w3 ⟨rfl, h3⟩
  have H3 : Hid (Stt w ⟨g, mb, 10, [⟨1, 12⟩, ⟨2, 5000⟩]⟩ none [] w3) := Lib.hid h3
  rw [show Wh.insE (⟨g, mb, 10, [⟨1, 12⟩]⟩ : Wd).now (⟨g, mb, 10, [⟨1, 12⟩]⟩ : Wd).S ⟨2, 5000⟩ = 0 from aw2]
  clear h3 H2
  go_wp2_with fail
  refine (adv_ok H3 4999 aw3).mono ?_
  rintro e w4 ⟨A, cap, rfl, h4⟩
  have H4 : Hid (Stt w ⟨g, mb, 4999, [⟨2, 5000⟩]⟩ none [(.slice A 1 cap, [⟨1, 12⟩])] w4) := Lib.hid h4
  rw [show (Wh.upto 4999 (⟨g, mb, 10, [⟨1, 12⟩, ⟨2, 5000⟩]⟩ : Wd).S).length = 1 from aw4]
  clear h4 H3
  go_wp2_with fail
  refine (adv_ok H4 5000 aw5).mono ?_
  rintro e w5 ⟨A2, cap2, rfl, h5⟩
  have H5 : Hid (Stt w ⟨g, mb, 5000, []⟩ none [(.slice A2 1 cap2, [⟨2, 5000⟩]), (.slice A 1 cap, [⟨1, 12⟩])] w5) := Lib.hid h5
  rw [show (Wh.upto 5000 (⟨g, mb, 4999, [⟨2, 5000⟩]⟩ : Wd).S).length = 1 from aw6]
  clear h5 H4
  go_wp2_with fail
  refine (new_no (-1) (by decide) _).mono ?_
  rintro e w6 ⟨rfl, rfl⟩
  have HIT := Lib.hid (items_calls A (some ⟨w5.heap.size, 0, none⟩) cap 1 [⟨1, 12⟩] (w5.alloc (.cells #[.int .i64 1, .int .i64 12] 31)) (Lib.hid ((H5.out.rd (A := A) (n := 1) (c := cap) (l := [⟨1, 12⟩]) (by simp)).bel (bel_new (Below.refl _ _) _))) (Lib.hid (rdL_lit w5 _ _ (by simp [maxLen]) _ rfl)) (by decide))
  go_wp2_with fail
  refine HIT.out.mono ?_
  rintro e w7 ⟨rfl, hb7⟩
  have H7 := Lib.hid (H5.out.bel (bel_tr (bel_new (Below.refl _ _) _) hb7))
  clear hb7
  go_wp2_with fail
  refine (now_st H7).mono ?_
  rintro e w8 ⟨rfl, rfl⟩
  go_wp2_with fail
  go_ret
  exact ⟨rfl, H7.out.below⟩
end Go.Proofs.Ytheocdfccdpmbaa
