
/-
  Contracts of quorum.Reached and of the reference's.
  Conditions: the lists can be read.
-/
import Derived.Test.YtdladjgdhnkkcaaGreatZQ4ToQ6
namespace Go.Proofs.YtdladjgdhnkkcaaGreat
open Go.RowKit
set_option linter.unusedVariables false
set_option linter.unusedSimpArgs false

namespace Qm
theorem map_take_step (f : Int → Int) (l : List Int) (k : Nat) (h : k < l.length) : (l.take (k + 1)).map f = (l.take k).map f ++ [f (l.getD k default)] := by
  rw [List.take_succ_eq_append_getElem h, List.map_append]; simp [List.getD, h]
theorem atl_step (f : Int → Int) (l : List Int) (k : Nat) (x : Int) (h : k < l.length) : atl ((l.take (k + 1)).map f) x = atl ((l.take k).map f) x + (if x ≤ f (l.getD k default) then 1 else 0) := by
  rw [map_take_step f l k h]
  unfold atl
  rw [List.filter_append, List.length_append]
  generalize f (l.getD k default) = z
  by_cases hx : x ≤ z <;> simp [hx]
/-- the greatest so far of those that more than half have reached -/
def Best (A : List Int) (k : Nat) (found : Bool) (best : Int) : Prop :=
  (found = false → best = 0 ∧ ∀ x ∈ A.take k, ¬ A.length < 2 * atl A x) ∧ (found = true → best ∈ A ∧ A.length < 2 * atl A best ∧ ∀ x ∈ A.take k, A.length < 2 * atl A x → x ≤ best)
theorem best_end {A : List Int} {found : Bool} {best : Int} (h0 : 0 < A.length) (h : Best A A.length found best) : best = (srt A).getD ((A.length - 1) / 2) 0 := by
  obtain ⟨m1, m2, m3⟩ := mid_one h0
  rw [Best, List.take_length] at h
  cases found with
  | false => exact absurd m2 ((h.1 rfl).2 _ m1)
  | true =>
    obtain ⟨b1, b2, b3⟩ := h.2 rfl
    have h1 := b3 _ m1 m2
    have h2 : ¬ (srt A).getD ((A.length - 1) / 2) 0 < best := fun hlt => m3 best hlt b2
    omega
theorem best_take {A : List Int} {k : Nat} {found : Bool} {best : Int} (h : Best A k found best) (hk : k < A.length) (hm : A.length < 2 * atl A (A.getD k 0)) (hg : found = false ∨ best < A.getD k 0) : Best A (k + 1) true (A.getD k 0) := by
  refine ⟨fun e => (nomatch e), fun _ => ⟨by simp only [List.getD, List.getElem?_eq_getElem hk, Option.getD_some]; exact List.getElem_mem hk, hm, fun x hx hxm => ?_⟩⟩
  rw [List.take_succ_eq_append_getElem hk] at hx
  rcases List.mem_append.1 hx with hx | hx
  · cases found with
    | false => exact absurd hxm ((h.1 rfl).2 x hx)
    | true =>
      have := (h.2 rfl).2.2 x hx hxm
      rcases hg with hg | hg
      · cases hg
      · omega
  · have : x = A[k] := by simpa using hx
    rw [this]
    simp [List.getD, hk]
theorem best_skip {A : List Int} {k : Nat} {found : Bool} {best : Int} (h : Best A k found best) (hk : k < A.length) (hm : ¬ A.length < 2 * atl A (A.getD k 0) ∨ (found = true ∧ A.getD k 0 ≤ best)) : Best A (k + 1) found best := by
  have hlast : ∀ x ∈ A.take (k + 1), x ∈ A.take k ∨ x = A.getD k 0 := fun x hx => by
    rw [List.take_succ_eq_append_getElem hk] at hx
    rcases List.mem_append.1 hx with hx | hx
    · exact .inl hx
    · right
      simp only [List.getD, List.getElem?_eq_getElem hk, Option.getD_some]
      simpa using hx
  refine ⟨fun e => ⟨(h.1 e).1, fun x hx => ?_⟩, fun e => ⟨(h.2 e).1, (h.2 e).2.1, fun x hx hxm => ?_⟩⟩
  · rcases hlast x hx with hx | rfl
    · exact (h.1 e).2 x hx
    · rcases hm with hm | ⟨hf, _⟩
      · exact hm
      · rw [e] at hf; cases hf
  · rcases hlast x hx with hx | rfl
    · exact (h.2 e).2.2 x hx hxm
    · rcases hm with hm | ⟨_, hm⟩
      · exact absurd hxm hm
      · exact hm
end Qm

theorem rdI_oneL (w : World) (x : Int) : RdL (layI .i64) (w.alloc (.cells #[.int .i64 x] 2)) (some ⟨w.heap.size, 0, none⟩) [x] := by
  obtain ⟨A, cap, e, _, _, h, _⟩ := (OwnL.lit (L := layI .i64) (e := 2) w w.heap.size (Nat.le_refl _) [x] (by simp [maxLen]) #[.int .i64 x] rfl).form
  injection e with e
  subst e
  exact h

set_option maxRecDepth 20000 in
set_option maxHeartbeats 4000000 in
theorem reached_calls (A B : Option Addr) (cap cap' : Nat) (l : List Int) (m : List (Int × Int)) (w : World) (hR : Hid (RdI w A l)) (hlen : l.length ≤ cap) (hcap : cap ≤ 9223372036854775807) (hM : Hid (RdL layIt w B m)) (hml : m.length ≤ 4611686018427387904) :
    Calls Tryz.prog 89 #[.slice A l.length cap, .slice B m.length cap'] w fun e w' => e = .returned (.int .i64 (Qm.reached l m)) ∧ Below w.heap.size w w' := by
  obtain ⟨r, hr⟩ : ∃ r, r = Qm.reached l m := ⟨_, rfl⟩
  rw [← hr]
  have HR := Lib.hid hr
  clear hr
  go_enter Tryz.func89, Tryz.ntmps89
  go_wp2_with fail
  refine (qcheck_calls A cap l w hR hlen hcap).mono ?_
  rintro e w' ⟨rfl, rfl⟩
  by_cases hq : Qm.chk l = true
  rotate_left
  · have hq' : Qm.chk l = false := by simpa using hq
    have hr : r = 0 := by rw [HR.out]; unfold Qm.reached; rw [hq']; rfl
    have HRR := Lib.hid hr
    rw [hq']
    clear hq hq' hr
    go_wp2_with fail
    go_ret
    rw [HRR.out]
    exact ⟨rfl, Below.refl _ _⟩
  obtain ⟨_, hl0, hl7⟩ := Qm.chk_asc hq
  have hr2 : r = (Qm.srt (l.map (Qm.at_ m))).getD ((l.length - 1) / 2) 0 := by rw [HR.out]; unfold Qm.reached; rw [if_pos hq]
  have HR2 := Lib.hid hr2
  rw [hq]
  clear hq hr2
  go_wp2_with fail
  go_loopg [5, 7, 8, 10, 16, 22] l.length (fun g v5 v7 v8 v10 v16 v22 W => Below w.heap.size w W ∧ ∃ k : Nat, v16 = .int .i64 k ∧ Hid (k + g = l.length ∧ OwnL (layI .i64) 2 W w.heap.size v5 ((l.take k).map (Qm.at_ m))))
  case atStart => exact ⟨Below.refl _ _, 0, rfl, Lib.hid ⟨by omega, OwnL.nil _ _⟩⟩
  case round =>
    obtain ⟨hb, k, rfl, HI⟩ := hrel
    by_cases hlt : k < l.length
    · have hl : (k : Int) < (l.length : Int) := by omega
      have hg : 0 < gk := by have := HI.out.1; omega
      obtain ⟨hkg, hown⟩ := HI.out
      have HKG := Lib.hid hkg
      have HOW := Lib.hid hown
      obtain ⟨b, off, rfl, h1, c1⟩ := hR.out.int k hlt
      replace c1 := (hb.cell (p := ⟨b, off + k, none⟩) h1).trans c1
      have hst := Qm.map_take_step (Qm.at_ m) l k hlt
      generalize l.getD k default = c at *
      have HST := Lib.hid hst
      have hkl2 : ((l.take k).map (Qm.at_ m)).length = k := by rw [List.length_map, List.length_take]; omega
      have HKL2 := Lib.hid hkl2
      clear hkg hown hst HI hkl2
      generalize gk = gk0 at *
      go_wp2_with fail
      go_loopg [8, 10, 22] m.length (fun g v8 v10 v22 W => Below w.heap.size w W ∧ Below wr.heap.size wr W ∧ ∃ j : Nat, v22 = .int .i64 j ∧ ∃ n : Int, v8 = .int .i64 n ∧ Hid (j + g = m.length ∧ n = Qm.at_ (m.take j) c))
      case atStart => exact ⟨hb, Below.refl _ _, 0, rfl, 0, rfl, Lib.hid ⟨by omega, by simp [Qm.at_]⟩⟩
      case round =>
        obtain ⟨hb, hb2, j, rfl, n, rfl, HJ⟩ := hrel
        by_cases hjt : j < m.length
        · have hj : (j : Int) < (m.length : Int) := by omega
          have hg2 : 0 < gk := by have := HJ.out.1; omega
          obtain ⟨b2, o2, rfl, h2, p1, p2⟩ := hM.out.item j hjt
          replace p1 := (hb.cell (p := ⟨b2, o2 + j * 2, none⟩) h2).trans p1
          replace p2 := (hb.cell (p := ⟨b2, o2 + j * 2 + 1, none⟩) h2).trans p2
          have hst : m.take (j + 1) = m.take j ++ [m.getD j default] := by rw [List.take_succ_eq_append_getElem hjt]; simp [List.getD, hjt]
          generalize m.getD j default = x at *
          obtain ⟨xi, xa⟩ := x
          simp only at p1 p2
          have HS2 : Hid (Qm.at_ (m.take (j + 1)) c = if xi = c then xa else n) := Lib.hid (by rw [hst, Qm.at_snoc, HJ.out.2])
          clear hst
          by_cases hxc : xi = c
          · have hs : Qm.at_ (m.take (j + 1)) c = xa := by rw [HS2.out, if_pos hxc]
            have HS := Lib.hid hs
            subst hxc
            clear hs
            go_wp2_with fail
            go_roundg (gk - 1)
            case rel => exact ⟨bel_new hb _, bel_new hb2 _, j + 1, by go_num, xa, rfl, Lib.hid ⟨by have := HJ.out.1; omega, HS.out.symm⟩⟩
            case measure => omega
          · have hs : Qm.at_ (m.take (j + 1)) c = n := by rw [HS2.out, if_neg hxc]
            have HS := Lib.hid hs
            have hne : (xi == c) = false := by rw [beq_eq_false_iff_ne]; exact hxc
            clear hs hxc
            go_wp2_with fail
            go_roundg (gk - 1)
            case rel => exact ⟨bel_new hb _, bel_new hb2 _, j + 1, by go_num, n, rfl, Lib.hid ⟨by have := HJ.out.1; omega, HS.out.symm⟩⟩
            case measure => omega
        · have hj : ¬ (j : Int) < (m.length : Int) := by omega
          have hn : n = Qm.at_ m c := by rw [HJ.out.2, show j = m.length from by have := HJ.out.1; omega, List.take_length]
          have HN := Lib.hid hn
          have HOW2 := Lib.hid (HOW.out.kept hb2)
          have HONE := Lib.hid (rdI_oneL wr n)
          clear hjt hn
          go_wp2_with (first
            | (at_builtin
               go_loud (refine wpList_appL 26 _ 8 Tryz.underlying26 infoL rfl rfl (.tmp 33) (.tmp 35) rfl w.heap.size _ _ rfl (HOW2.out.kept (bel_new (Below.refl _ _) _)) (some ⟨wr.heap.size, 0, none⟩) 1 1 [n] rfl rfl HONE.out (by rw [HKL2.out]; simp [maxLen]; omega) (by rw [HKL2.out]; simp; omega) (bel_new hb _).size ?_)
               intro v5 w5 ho5 hg5
               have hb5 := Lib.hid (OwnL.grown (w0 := w) (HOW2.out.kept (bel_new (Below.refl _ _) _)) (bel_new hb _) (bel_new hb _).size hg5)))
          go_roundg (gk0 - 1)
          case rel => exact ⟨hb5.out, k + 1, by go_num, Lib.hid ⟨by have := HKG.out; omega, by rw [HST.out, ← HN.out]; exact ho5⟩⟩
          case measure => omega
    · have hl : ¬ (k : Int) < (l.length : Int) := by omega
      obtain ⟨hkg, hown⟩ := HI.out
      have hke : k = l.length := by omega
      rw [hke, List.take_length] at hown
      have hml2 : (l.map (Qm.at_ m)).length = l.length := List.length_map _
      have HOW := Lib.hid hown
      clear hkg hown HI hke hlt
      go_wp2_with fail
      refine (sortL_calls w.heap.size _ _ wr HOW (by rw [hml2]; omega)).mono ?_
      rintro e w' ⟨rfl, ys, y1, y2, y3, y4⟩
      have hys := Qm.srt_eq y1 y2
      have hyl : ys.length = l.length := y1.length_eq.trans hml2
      have hbS := Lib.hid (OwnL.grown (w0 := w) HOW.out hb hb.size y4)
      obtain ⟨g, c, rfl, _, _, hc1, hc2⟩ := y3.block (by omega)
      have hmid : (l.length - 1) / 2 < ys.length := by omega
      obtain ⟨q1, _⟩ := y3.at_ ((l.length - 1) / 2) hmid
      have hr3 : r = ys.getD ((l.length - 1) / 2) 0 := by rw [HR2.out, hys]
      rw [← hr3] at q1
      have e1 : (((l.length : Int) - 1) / 2) = (((l.length - 1) / 2 : Nat) : Int) := by omega
      have e2 : ((l.length : Int) - 1).tdiv 2 = (((l.length - 1) / 2 : Nat) : Int) := by rw [Int.tdiv_eq_ediv_of_nonneg (by omega)]; omega
      have e3 : (((l.length - 1) / 2 : Nat) : Int) < (l.length : Int) := by omega
      have hl1 : (1 : Int) ≤ (l.length : Int) := by omega
      rw [hyl] at *
      generalize (l.length - 1) / 2 = mid at *
      clear y1 y2 y3 y4 hys hmid hr3
      go_wp2_with fail
      go_ret
      exact ⟨rfl, hbS.out⟩

set_option maxRecDepth 20000 in
set_option maxHeartbeats 4000000 in
theorem rreached_calls (A B : Option Addr) (cap cap' : Nat) (l : List Int) (m : List (Int × Int)) (w : World) (hR : Hid (RdI w A l)) (hlen : l.length ≤ 9223372036854775807) (hM : Hid (RdL layIt w B m)) (hml : m.length ≤ 4611686018427387904) :
    Calls Tryz.prog 93 #[.slice A l.length cap, .slice B m.length cap'] w fun e w' => e = .returned (.int .i64 (Qm.reached l m)) ∧ w = w' := by
  obtain ⟨r, hr⟩ : ∃ r, r = Qm.reached l m := ⟨_, rfl⟩
  rw [← hr]
  have HR := Lib.hid hr
  clear hr
  go_enter Tryz.func93, Tryz.ntmps93
  go_wp2_with fail
  refine (qrcheck_calls A cap l w hR hlen).mono ?_
  rintro e w' ⟨rfl, rfl⟩
  by_cases hq : Qm.chk l = true
  rotate_left
  · have hq' : Qm.chk l = false := by simpa using hq
    have hr : r = 0 := by rw [HR.out]; unfold Qm.reached; rw [hq']; rfl
    have HRR := Lib.hid hr
    rw [hq']
    clear hq hq' hr
    go_wp2_with fail
    go_ret
    rw [HRR.out]
    exact ⟨rfl, rfl⟩
  obtain ⟨_, hl0, hl7⟩ := Qm.chk_asc hq
  obtain ⟨F, hF⟩ : ∃ F, F = Qm.at_ m := ⟨_, rfl⟩
  have hr2 : r = (Qm.srt (l.map F)).getD ((l.length - 1) / 2) 0 := by rw [HR.out]; unfold Qm.reached; rw [if_pos hq, hF]
  have HR2 := Lib.hid hr2
  have hat := Lib.hid (fun id => at_calls B cap' m id w hM hml)
  rw [← hF] at hat
  have hml2 : (l.map F).length = l.length := List.length_map _
  have HML := Lib.hid hml2
  have hget : ∀ k, k < l.length → (l.map F).getD k 0 = F (l.getD k default) := fun k hk => by simp [List.getD, hk]
  have HGET := Lib.hid hget
  rw [hq]
  clear hq hr2 hF hml2 hget
  go_wp2_with fail
  go_loopg [5, 6, 7, 8, 9, 10] l.length (fun g v5 v6 v7 v8 v9 v10 W => W = w ∧ ∃ (k : Nat) (best : Int) (found : Bool), v7 = .int .i64 k ∧ v5 = .int .i64 best ∧ v6 = .bool found ∧ Hid (k + g = l.length ∧ Qm.Best (l.map F) k found best))
  case atStart => exact ⟨rfl, 0, 0, false, rfl, rfl, rfl, Lib.hid ⟨by omega, fun _ => ⟨rfl, by simp⟩, fun e => (nomatch e)⟩⟩
  case round =>
    obtain ⟨rfl, k, best, found, rfl, rfl, rfl, HI⟩ := hrel
    by_cases hlt : k < l.length
    · have hl : (k : Int) < (l.length : Int) := by omega
      have hg : 0 < gk := by have := HI.out.1; omega
      obtain ⟨b, off, rfl, h1, c1⟩ := hR.out.int k hlt
      obtain ⟨n, hn⟩ : ∃ n, n = F (l.getD k default) := ⟨_, rfl⟩
      have hgk := HGET.out k hlt
      rw [← hn] at hgk
      have HN := Lib.hid hn
      have HGK := Lib.hid hgk
      obtain ⟨x, hx⟩ : ∃ x, x = l.getD k default := ⟨_, rfl⟩
      rw [← hx] at c1 hn
      have hatx := hat.out x
      rw [← hn] at hatx
      have HATX := Lib.hid hatx
      clear hx hn hgk hatx
      generalize gk = gk0 at *
      go_wp2_with fail
      refine HATX.out.mono ?_
      rintro e w' ⟨rfl, rfl⟩
      go_wp2_with fail
      go_loopg [9, 10] l.length (fun g v9 v10 W => W = wr ∧ ∃ (j c : Nat), v10 = .int .i64 j ∧ v9 = .int .i64 c ∧ c ≤ j ∧ Hid (j + g = l.length ∧ c = Qm.atl ((l.take j).map F) n))
      case atStart => exact ⟨rfl, 0, 0, rfl, rfl, Nat.le_refl _, Lib.hid ⟨by omega, by simp [Qm.atl]⟩⟩
      case round =>
        obtain ⟨rfl, j, c, rfl, rfl, hcj, HJ⟩ := hrel
        by_cases hjt : j < l.length
        · have hj : (j : Int) < (l.length : Int) := by omega
          have hg2 : 0 < gk := by have := HJ.out.1; omega
          obtain ⟨b2, o2, e2, _, p1⟩ := hR.out.int j hjt
          injection e2 with e2
          injection e2 with e3 e4 _
          subst e3; subst e4
          have hst := Qm.atl_step F l j n hjt
          rw [← HJ.out.2] at hst
          obtain ⟨y, hy⟩ : ∃ y, y = l.getD j default := ⟨_, rfl⟩
          rw [← hy] at p1 hst
          have haty := hat.out y
          obtain ⟨z, hz⟩ : ∃ z, z = F y := ⟨_, rfl⟩
          rw [← hz] at hst haty
          have HST := Lib.hid hst
          have HATY := Lib.hid haty
          clear hst haty hy hz
          go_wp2_with fail
          refine HATY.out.mono ?_
          rintro e w' ⟨rfl, rfl⟩
          by_cases hnz : n ≤ z
          · have hs := HST.out
            rw [if_pos hnz] at hs
            have HS := Lib.hid hs
            clear hs
            go_wp2_with fail
            go_roundg (gk - 1)
            case rel => exact ⟨rfl, j + 1, c + 1, by go_num, by go_num, by omega, Lib.hid ⟨by have := HJ.out.1; omega, HS.out.symm⟩⟩
            case measure => omega
          · have hs := HST.out
            rw [if_neg hnz, Nat.add_zero] at hs
            have HS := Lib.hid hs
            clear hs
            go_wp2_with fail
            go_roundg (gk - 1)
            case rel => exact ⟨rfl, j + 1, c, by go_num, rfl, by omega, Lib.hid ⟨by have := HJ.out.1; omega, HS.out.symm⟩⟩
            case measure => omega
        · have hj : ¬ (j : Int) < (l.length : Int) := by omega
          have hc : c = Qm.atl (l.map F) n := by rw [HJ.out.2, show j = l.length from by have := HJ.out.1; omega, List.take_length]
          have hjl : j = l.length := by have := HJ.out.1; omega
          have hc7 : c ≤ 7 := by omega
          have HC := Lib.hid hc
          have HTK := Lib.hid (fun a b => Qm.best_take HI.out.2 (by rw [HML.out]; exact hlt) a b)
          have HSK := Lib.hid (fun a => Qm.best_skip HI.out.2 (by rw [HML.out]; exact hlt) a)
          rw [HGK.out] at HTK HSK
          rw [← HC.out, HML.out] at HTK HSK
          clear hjt hc hjl hcj
          by_cases hmaj : l.length < 2 * c
          · have hmi : (l.length : Int) < 2 * (c : Int) := by omega
            cases found with
            | false =>
              have HB := Lib.hid (HTK.out hmaj (.inl rfl))
              clear hmaj
              go_wp2_with fail
              go_roundg (gk0 - 1)
              case rel => exact ⟨rfl, k + 1, n, true, by go_num, rfl, rfl, Lib.hid ⟨by have := HI.out.1; omega, HB.out⟩⟩
              case measure => omega
            | true =>
              by_cases hbn : best < n
              · have HB := Lib.hid (HTK.out hmaj (.inr hbn))
                clear hmaj
                go_wp2_with fail
                go_roundg (gk0 - 1)
                case rel => exact ⟨rfl, k + 1, n, true, by go_num, rfl, rfl, Lib.hid ⟨by have := HI.out.1; omega, HB.out⟩⟩
                case measure => omega
              · have HB := Lib.hid (HSK.out (.inr ⟨rfl, by omega⟩))
                clear hmaj
                go_wp2_with fail
                go_roundg (gk0 - 1)
                case rel => exact ⟨rfl, k + 1, best, true, by go_num, rfl, rfl, Lib.hid ⟨by have := HI.out.1; omega, HB.out⟩⟩
                case measure => omega
          · have hmi : ¬ (l.length : Int) < 2 * (c : Int) := by omega
            have HB := Lib.hid (HSK.out (.inl hmaj))
            clear hmaj
            go_wp2_with fail
            go_roundg (gk0 - 1)
            case rel => exact ⟨rfl, k + 1, best, found, by go_num, rfl, rfl, Lib.hid ⟨by have := HI.out.1; omega, HB.out⟩⟩
            case measure => omega
    · have hl : ¬ (k : Int) < (l.length : Int) := by omega
      have hB := HI.out.2
      rw [show k = (l.map F).length from by rw [HML.out]; have := HI.out.1; omega] at hB
      have hbe := Qm.best_end (by rw [HML.out]; exact hl0) hB
      rw [HML.out, ← HR2.out] at hbe
      have HBE := Lib.hid hbe
      clear hlt hB hbe
      go_wp2_with fail
      go_ret
      rw [HBE.out]
      exact ⟨rfl, rfl⟩
end Go.Proofs.YtdladjgdhnkkcaaGreat
