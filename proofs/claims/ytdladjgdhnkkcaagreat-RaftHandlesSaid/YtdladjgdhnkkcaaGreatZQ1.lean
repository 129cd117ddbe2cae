
/-
  Contracts of the package quorum and of its reference: Check, Contains, Has, Wins, Both.
  Conditions: the lists can be read.
-/
import Derived.Test.YtdladjgdhnkkcaaGreatZRowToRow2
namespace Go.Proofs.YtdladjgdhnkkcaaGreat
open Go.RowKit
set_option linter.unusedVariables false
set_option linter.unusedSimpArgs false

namespace Qm
/-- rising, from above p on -/
def asc (p : Int) : List Int → Bool
  | [] => true
  | x :: l => decide (p < x) && asc x l
/-- a configuration -/
def chk (l : List Int) : Bool := decide (0 < l.length) && decide (l.length ≤ 7) && asc 0 l
/-- how many of them are in a set -/
def cnt (l s : List Int) : Nat := (l.filter fun c => decide (c ∈ s)).length
def wins (l s : List Int) : Bool := chk l && decide (l.length < 2 * cnt l s)
theorem cnt_step (l s : List Int) (k : Nat) (h : k < l.length) : cnt (l.take (k + 1)) s = cnt (l.take k) s + (if l.getD k default ∈ s then 1 else 0) := by
  unfold cnt
  rw [List.take_succ_eq_append_getElem h, List.filter_append, List.length_append]
  simp only [List.getD, List.getElem?_eq_getElem h, Option.getD_some]
  by_cases hm : l[k] ∈ s <;> simp [hm]
theorem drop_at (l : List Int) (k : Nat) (h : k < l.length) : l.drop k = l.getD k default :: l.drop (k + 1) := by
  rw [List.drop_eq_getElem_cons h]; simp [List.getD, h]
end Qm

abbrev RdI (w : World) (A : Option Addr) (l : List Int) : Prop := RdL (layI .i64) w A l
theorem RdL.int {k : IntKind} {w : World} {A : Option Addr} {l : List Int} (h : RdL (layI k) w A l) (i : Nat) (hi : i < l.length) : ∃ b off, A = some ⟨b, off, none⟩ ∧ b < w.heap.size ∧ w.cell? ⟨b, off + i, none⟩ = some (.int k (l.getD i default)) := by
  obtain ⟨b, off, e, hb, hc⟩ := h i hi
  have := hc 0 _ rfl
  exact ⟨b, off, e, hb, by simpa [layI] using this⟩

set_option maxHeartbeats 1000000 in
theorem index_calls (A : Option Addr) (cap : Nat) (l : List Int) (v : Int) (w : World) (hR : Hid (RdI w A l)) (hlen : l.length ≤ 9223372036854775807) :
    Calls Tryz.prog 61 #[.slice A l.length cap, .int .i64 v] w fun e w' => (∃ i : Int, e = .returned (.int .i64 i) ∧ Hid (0 ≤ i ↔ v ∈ l)) ∧ w = w' := by
  go_enter Tryz.func61, Tryz.ntmps61
  go_wp2_with fail
  go_loopg [5, 8] l.length (fun g v5 v8 W => W = w ∧ ∃ k : Nat, v8 = .int .i64 k ∧ Hid (k + g = l.length ∧ v ∉ l.take k))
  case atStart => exact ⟨rfl, 0, rfl, Lib.hid ⟨by omega, by simp⟩⟩
  case round =>
    obtain ⟨rfl, k, rfl, HI⟩ := hrel
    by_cases hlt : k < l.length
    · have hl : (k : Int) < (l.length : Int) := by omega
      have hg : 0 < gk := by have := HI.out.1; omega
      obtain ⟨b, off, rfl, _, hc⟩ := hR.out.int k hlt
      have hst : l.take (k + 1) = l.take k ++ [l.getD k default] := by rw [List.take_succ_eq_append_getElem hlt]; simp [List.getD, hlt]
      obtain ⟨x, hx⟩ : ∃ x, x = l.getD k default := ⟨_, rfl⟩
      rw [← hx] at hc hst
      have HST := Lib.hid hst
      clear hst
      by_cases hvx : v = x
      · have hin : v ∈ l := by rw [hvx, hx]; simp only [List.getD, List.getElem?_eq_getElem hlt, Option.getD_some]; exact List.getElem_mem hlt
        subst hvx
        have HIN := Lib.hid hin
        clear hx hin
        go_wp2_with fail
        go_ret
        exact ⟨⟨_, rfl, Lib.hid ⟨fun _ => HIN.out, fun _ => by omega⟩⟩, rfl⟩
      · have hne : (v == x) = false := by rw [beq_eq_false_iff_ne]; exact hvx
        have HVX := Lib.hid hvx
        clear hx hvx
        go_wp2_with fail
        go_roundg (gk - 1)
        case rel => exact ⟨rfl, k + 1, by go_num, Lib.hid ⟨by have := HI.out.1; omega, by rw [HST.out]; simp [HI.out.2, HVX.out]⟩⟩
        case measure => omega
    · have hl : ¬ (k : Int) < (l.length : Int) := by omega
      have hn : v ∉ l := by
        have := HI.out.2
        rwa [show k = l.length from by have := HI.out.1; omega, List.take_length] at this
      have HN := Lib.hid hn
      clear hlt hn
      go_wp2_with fail
      go_ret
      exact ⟨⟨_, rfl, Lib.hid ⟨fun h => absurd h (by decide), fun h => absurd h HN.out⟩⟩, rfl⟩

theorem contains_calls (A : Option Addr) (cap : Nat) (l : List Int) (v : Int) (w : World) (hR : Hid (RdI w A l)) (hlen : l.length ≤ 9223372036854775807) :
    Calls Tryz.prog 42 #[.slice A l.length cap, .int .i64 v] w fun e w' => e = .returned (.bool (decide (v ∈ l))) ∧ w = w' := by
  go_enter Tryz.func42, Tryz.ntmps42
  go_wp2_with fail
  refine (index_calls A cap l v w hR hlen).mono ?_
  rintro e w' ⟨⟨i, rfl, hi⟩, rfl⟩
  go_wp2_with fail
  go_ret
  refine ⟨ret_bool ?_, rfl⟩
  by_cases h : v ∈ l
  · rw [decide_eq_true h, decide_eq_true (hi.out.2 h)]
  · rw [decide_eq_false h, decide_eq_false (fun h2 => h (hi.out.1 h2))]

set_option maxHeartbeats 1000000 in
theorem has_calls (A : Option Addr) (cap : Nat) (l : List Int) (v : Int) (w : World) (hR : Hid (RdI w A l)) (hlen : l.length ≤ 9223372036854775807) :
    Calls Tryz.prog 49 #[.slice A l.length cap, .int .i64 v] w fun e w' => e = .returned (.bool (decide (v ∈ l))) ∧ w = w' := by
  obtain ⟨r, hr⟩ : ∃ r, r = decide (v ∈ l) := ⟨_, rfl⟩
  rw [← hr]
  have HR := Lib.hid hr
  clear hr
  go_enter Tryz.func49, Tryz.ntmps49
  go_wp2_with fail
  go_loopg [5] l.length (fun g v5 W => W = w ∧ ∃ k : Nat, v5 = .int .i64 k ∧ Hid (k + g = l.length ∧ v ∉ l.take k))
  case atStart => exact ⟨rfl, 0, rfl, Lib.hid ⟨by omega, by simp⟩⟩
  case round =>
    obtain ⟨rfl, k, rfl, HI⟩ := hrel
    by_cases hlt : k < l.length
    · have hl : (k : Int) < (l.length : Int) := by omega
      have hg : 0 < gk := by have := HI.out.1; omega
      obtain ⟨b, off, rfl, _, hc⟩ := hR.out.int k hlt
      have hst : l.take (k + 1) = l.take k ++ [l.getD k default] := by rw [List.take_succ_eq_append_getElem hlt]; simp [List.getD, hlt]
      obtain ⟨x, hx⟩ : ∃ x, x = l.getD k default := ⟨_, rfl⟩
      rw [← hx] at hc hst
      have HST := Lib.hid hst
      clear hst
      by_cases hvx : x = v
      · have hin : r = true := by rw [HR.out, decide_eq_true]; rw [← hvx, hx]; simp only [List.getD, List.getElem?_eq_getElem hlt, Option.getD_some]; exact List.getElem_mem hlt
        subst hvx
        clear hx
        go_wp2_with fail
        go_ret
        exact ⟨by first | rfl | exact ret_bool hin.symm, rfl⟩
      · have hne : (x == v) = false := by rw [beq_eq_false_iff_ne]; exact hvx
        have HVX := Lib.hid hvx
        clear hx hvx
        go_wp2_with fail
        go_roundg (gk - 1)
        case rel => exact ⟨rfl, k + 1, by go_num, Lib.hid ⟨by have := HI.out.1; omega, by rw [HST.out]; exact fun h => (List.mem_append.1 h).elim HI.out.2 (fun h => HVX.out (List.mem_singleton.1 h).symm)⟩⟩
        case measure => omega
    · have hl : ¬ (k : Int) < (l.length : Int) := by omega
      have hn : r = false := by
        rw [HR.out, decide_eq_false]
        have := HI.out.2
        rwa [show k = l.length from by have := HI.out.1; omega, List.take_length] at this
      clear hlt
      go_wp2_with fail
      go_ret
      exact ⟨by first | rfl | exact ret_bool hn.symm, rfl⟩

set_option maxHeartbeats 1000000 in
theorem qcheck_calls (A : Option Addr) (cap : Nat) (l : List Int) (w : World) (hR : Hid (RdI w A l)) (hlen : l.length ≤ cap) (hcap : cap ≤ 9223372036854775807) :
    Calls Tryz.prog 43 #[.slice A l.length cap] w fun e w' => e = .returned (.bool (Qm.chk l)) ∧ w = w' := by
  obtain ⟨r, hr⟩ : ∃ r, r = Qm.chk l := ⟨_, rfl⟩
  rw [← hr]
  have HR := Lib.hid hr
  clear hr
  by_cases h0 : l.length = 0
  · have hl : l = [] := List.eq_nil_of_length_eq_zero h0
    subst hl
    have hr : r = false := HR.out
    simp only [List.length_nil]
    clear h0
    go_enter Tryz.func43, Tryz.ntmps43
    go_wp2_with fail
    go_ret
    exact ⟨by first | rfl | exact ret_bool hr.symm, rfl⟩
  by_cases h7 : 7 < l.length
  · have hr : r = false := by rw [HR.out]; unfold Qm.chk; rw [decide_eq_false (show ¬ l.length ≤ 7 by omega)]; simp
    have h1i : ¬ (l.length : Int) < 1 := by omega
    have h7i : (7 : Int) < (l.length : Int) := by omega
    go_enter Tryz.func43, Tryz.ntmps43
    go_wp2_with fail
    go_ret
    exact ⟨by first | rfl | exact ret_bool hr.symm, rfl⟩
  have h1i : ¬ (l.length : Int) < 1 := by omega
  have h7i : ¬ (7 : Int) < (l.length : Int) := by omega
  obtain ⟨b, off, rfl, _, hc⟩ := hR.out.int 0 (by omega)
  rw [Nat.add_zero] at hc
  have hr1 : r = Qm.asc 0 l := by rw [HR.out]; unfold Qm.chk; rw [decide_eq_true (show 0 < l.length by omega), decide_eq_true (show l.length ≤ 7 by omega)]; simp
  have hd0 := Qm.drop_at l 0 (by omega)
  rw [List.drop_zero] at hd0
  have hr2 : r = (decide (0 < l.getD 0 default) && Qm.asc (l.getD 0 default) (l.drop 1)) := by rw [hr1]; exact (congrArg (Qm.asc 0) hd0).trans rfl
  obtain ⟨x, hx⟩ : ∃ x, x = l.getD 0 default := ⟨_, rfl⟩
  rw [← hx] at hr2 hc
  have HX := Lib.hid hx
  have HR2 := Lib.hid hr2
  have hnn : 0 < l.length := by omega
  have hll : (0 : Int) ≤ ((l.length - 1 : Nat) : Int) := by omega
  clear hr1 hd0 hr2 hx h0 h7 HR
  by_cases hx1 : x < 1
  · have hr : r = false := by rw [HR2.out, decide_eq_false (by omega)]; rfl
    go_enter Tryz.func43, Tryz.ntmps43
    go_wp2_with fail
    go_ret
    exact ⟨by first | rfl | exact ret_bool hr.symm, rfl⟩
  have hr3 : r = Qm.asc x (l.drop 1) := by rw [HR2.out, decide_eq_true (by omega)]; rfl
  have HR3 := Lib.hid hr3
  have hc1 : (1 : Int) ≤ (l.length : Int) := by omega
  have hc2 : (1 : Int) ≤ (cap : Int) := by omega
  clear hr3 HR2
  by_cases hcp : cap = 1
  · subst hcp
    have hl1 : l.length = 1 := by omega
    have hr : r = true := by rw [HR3.out, List.drop_eq_nil_of_le (by omega)]; rfl
    rw [hl1]
    clear hlen h1i h7i hll hc1 hc2 hnn
    go_enter Tryz.func43, Tryz.ntmps43
    go_wp2_with fail
    go_loopg [22] 1 (fun g v22 W => W = w ∧ v22 = .int .i64 0)
    case atStart => exact ⟨rfl, rfl⟩
    case round =>
      obtain ⟨rfl, rfl⟩ := hrel
      go_wp2_with fail
      go_ret
      exact ⟨by first | rfl | exact ret_bool hr.symm, rfl⟩
  · have hcp' : ¬ 1 = cap := fun e => hcp e.symm
    go_enter Tryz.func43, Tryz.ntmps43
    go_wp2_with fail
    go_loopg [3, 4, 22] l.length (fun g v3 v4 v22 W => W = w ∧ ∃ k : Nat, v22 = .int .i64 k ∧ k + 1 + g = l.length + 1 ∧ k + 1 ≤ l.length ∧ Hid (r = Qm.asc (l.getD k default) (l.drop (k + 1))))
    case atStart => exact ⟨rfl, 0, rfl, by omega, by omega, Lib.hid (by rw [HR3.out, HX.out])⟩
    case round =>
      obtain ⟨rfl, k, rfl, hkg, hk1, HI⟩ := hrel
      have HG := Lib.hid hkg
      by_cases hlt : k + 1 < l.length
      · have hl2 : (k : Int) < (l.length : Int) - 1 := by omega
        have hl3 : (k : Int) < ((l.length - 1 : Nat) : Int) := by omega
        have hl4 : (k : Int) < (l.length : Int) := by omega
        have hg : 0 < gk := by omega
        obtain ⟨b1, o1, e1, _, p1⟩ := hR.out.int k (by omega)
        obtain ⟨b2, o2, e2, _, p2⟩ := hR.out.int (k + 1) hlt
        injection e1 with e1
        injection e1 with e3 e4 _
        subst e3; subst e4
        injection e2 with e2
        injection e2 with e3 e4 _
        subst e3; subst e4
        have hd := Qm.drop_at l (k + 1) hlt
        have hI := HI.out
        rw [hd] at hI
        obtain ⟨y, hy⟩ : ∃ y, y = l.getD k default := ⟨_, rfl⟩
        obtain ⟨z, hz⟩ : ∃ z, z = l.getD (k + 1) default := ⟨_, rfl⟩
        rw [← hy] at p1 hI
        rw [← hz] at p2 hI
        have p2' : wr.cell? ⟨b, off + 1 + k, none⟩ = some (.int .i64 z) := by rw [show off + 1 + k = off + (k + 1) from by omega]; exact p2
        have HII := Lib.hid hI
        have HZ := Lib.hid hz
        clear hd hI hy hz HI hkg
        by_cases hyz : y < z
        · have hyz2 : ¬ z ≤ y := by omega
          go_wp2_with fail
          go_roundg (gk - 1)
          case rel => exact ⟨rfl, k + 1, by go_num, by have := HG.out; omega, by omega, Lib.hid (by rw [HII.out, Qm.asc, decide_eq_true (by first | exact hyz | omega), ← HZ.out]; rfl)⟩
          case measure => omega
        · have hyz2 : z ≤ y := by omega
          have hr : r = false := by rw [HII.out, Qm.asc, decide_eq_false hyz]; rfl
          go_wp2_with fail
          go_ret
          exact ⟨by first | rfl | exact ret_bool hr.symm, rfl⟩
      · have hl3 : ¬ (k : Int) < ((l.length - 1 : Nat) : Int) := by omega
        have hl2 : ¬ (k : Int) < (l.length : Int) - 1 := by omega
        have hr : r = true := by rw [HI.out, List.drop_eq_nil_of_le (by omega)]; rfl
        clear hkg
        go_wp2_with fail
        go_ret
        exact ⟨by first | rfl | exact ret_bool hr.symm, rfl⟩

set_option maxHeartbeats 1000000 in
theorem qrcheck_calls (A : Option Addr) (cap : Nat) (l : List Int) (w : World) (hR : Hid (RdI w A l)) (hlen : l.length ≤ 9223372036854775807) :
    Calls Tryz.prog 48 #[.slice A l.length cap] w fun e w' => e = .returned (.bool (Qm.chk l)) ∧ w = w' := by
  obtain ⟨r, hr⟩ : ∃ r, r = Qm.chk l := ⟨_, rfl⟩
  rw [← hr]
  have HR := Lib.hid hr
  clear hr
  by_cases h0 : l.length = 0
  · have hl : l = [] := List.eq_nil_of_length_eq_zero h0
    subst hl
    have hr : r = false := HR.out
    simp only [List.length_nil]
    clear h0
    go_enter Tryz.func48, Tryz.ntmps48
    go_wp2_with fail
    go_ret
    exact ⟨by first | rfl | exact ret_bool hr.symm, rfl⟩
  have h0i : ((l.length : Int) == 0) = false := by rw [beq_eq_false_iff_ne]; omega
  by_cases h7 : 7 < l.length
  · have hr : r = false := by rw [HR.out]; unfold Qm.chk; rw [decide_eq_false (show ¬ l.length ≤ 7 by omega)]; simp
    have h7i : (7 : Int) < (l.length : Int) := by omega
    clear h0
    go_enter Tryz.func48, Tryz.ntmps48
    go_wp2_with fail
    go_ret
    exact ⟨by first | rfl | exact ret_bool hr.symm, rfl⟩
  have h7i : ¬ (7 : Int) < (l.length : Int) := by omega
  have hr1 : r = Qm.asc 0 l := by rw [HR.out]; unfold Qm.chk; rw [decide_eq_true (show 0 < l.length by omega), decide_eq_true (show l.length ≤ 7 by omega)]; simp
  have HR1 := Lib.hid hr1
  clear h0 h7 hr1
  go_enter Tryz.func48, Tryz.ntmps48
  go_wp2_with fail
  go_loopg [3, 4] l.length (fun g v3 v4 W => W = w ∧ ∃ (k : Nat) (y : Int), v4 = .int .i64 k ∧ v3 = .int .i64 y ∧ k + g = l.length ∧ Hid (r = Qm.asc y (l.drop k)))
  case atStart => exact ⟨rfl, 0, 0, rfl, rfl, by omega, Lib.hid HR1.out⟩
  case round =>
    obtain ⟨rfl, k, y, rfl, rfl, hkg, HI⟩ := hrel
    have HG := Lib.hid hkg
    by_cases hlt : k < l.length
    · have hl4 : (k : Int) < (l.length : Int) := by omega
      have hg : 0 < gk := by omega
      obtain ⟨b, off, rfl, _, p1⟩ := hR.out.int k hlt
      have hI := HI.out
      rw [Qm.drop_at l k hlt] at hI
      generalize l.getD k default = z at *
      have HII := Lib.hid hI
      clear hI HI hkg
      by_cases hyz : y < z
      · have hyz2 : ¬ z ≤ y := by omega
        go_wp2_with fail
        go_roundg (gk - 1)
        case rel => exact ⟨rfl, k + 1, z, by go_num, rfl, by have := HG.out; omega, Lib.hid (by rw [HII.out, Qm.asc, decide_eq_true (by first | exact hyz | omega)]; rfl)⟩
        case measure => omega
      · have hyz2 : z ≤ y := by omega
        have hr : r = false := by rw [HII.out, Qm.asc, decide_eq_false hyz]; rfl
        go_wp2_with fail
        go_ret
        exact ⟨by first | rfl | exact ret_bool hr.symm, rfl⟩
    · have hl2 : ¬ (k : Int) < (l.length : Int) := by omega
      have hr : r = true := by rw [HI.out, List.drop_eq_nil_of_le (by omega)]; rfl
      clear hkg
      go_wp2_with fail
      go_ret
      exact ⟨by first | rfl | exact ret_bool hr.symm, rfl⟩

set_option maxHeartbeats 1000000 in
theorem wins_calls (A B : Option Addr) (cap cap' : Nat) (l s : List Int) (w : World) (hR : Hid (RdI w A l)) (hlen : l.length ≤ cap) (hcap : cap ≤ 9223372036854775807) (hS : Hid (RdI w B s)) (hsl : s.length ≤ 9223372036854775807) :
    Calls Tryz.prog 58 #[.slice A l.length cap, .slice B s.length cap'] w fun e w' => e = .returned (.bool (Qm.wins l s)) ∧ w = w' := by
  obtain ⟨r, hr⟩ : ∃ r, r = Qm.wins l s := ⟨_, rfl⟩
  rw [← hr]
  have HR := Lib.hid hr
  clear hr
  go_enter Tryz.func58, Tryz.ntmps58
  go_wp2_with fail
  go_loopg [5, 7, 10] l.length (fun g v5 v7 v10 W => W = w ∧ ∃ (k c : Nat), v10 = .int .i64 k ∧ v5 = .int .i64 c ∧ k + g = l.length ∧ c ≤ k ∧ Hid (c = Qm.cnt (l.take k) s))
  case atStart => exact ⟨rfl, 0, 0, rfl, rfl, by omega, by omega, Lib.hid (by simp [Qm.cnt])⟩
  case round =>
    obtain ⟨rfl, k, c, rfl, rfl, hkg, hck, HI⟩ := hrel
    have HG := Lib.hid hkg
    by_cases hlt : k < l.length
    · have hl4 : (k : Int) < (l.length : Int) := by omega
      have hg : 0 < gk := by omega
      obtain ⟨b, off, rfl, _, p1⟩ := hR.out.int k hlt
      have hst := Qm.cnt_step l s k hlt
      generalize l.getD k default = z at *
      rw [← HI.out] at hst
      have HST := Lib.hid hst
      clear hkg hst
      go_wp2_with fail
      refine (contains_calls B cap' s z wr hS hsl).mono ?_
      rintro e w' ⟨rfl, rfl⟩
      by_cases hz : z ∈ s
      · rw [decide_eq_true hz]
        have hst := HST.out
        rw [if_pos hz] at hst
        have HST2 := Lib.hid hst
        clear hst hz
        go_wp2_with fail
        go_roundg (gk - 1)
        case rel => exact ⟨rfl, k + 1, c + 1, by go_num, by go_num, by have := HG.out; omega, by omega, Lib.hid HST2.out.symm⟩
        case measure => omega
      · rw [decide_eq_false hz]
        have hst := HST.out
        rw [if_neg hz, Nat.add_zero] at hst
        have HST2 := Lib.hid hst
        clear hst hz
        go_wp2_with fail
        go_roundg (gk - 1)
        case rel => exact ⟨rfl, k + 1, c, by go_num, rfl, by have := HG.out; omega, by omega, Lib.hid HST2.out.symm⟩
        case measure => omega
    · have hl2 : ¬ (k : Int) < (l.length : Int) := by omega
      have hc : c = Qm.cnt l s := by rw [HI.out, show k = l.length from by omega, List.take_length]
      have HC := Lib.hid hc
      have hkl : k = l.length := by omega
      have HKL := Lib.hid hkl
      clear hkg hc hkl
      go_wp2_with fail
      refine (qcheck_calls A cap l wr hR hlen hcap).mono ?_
      rintro e w' ⟨rfl, rfl⟩
      by_cases hq : Qm.chk l = true
      · have hl7 : l.length ≤ 7 := by
          unfold Qm.chk at hq
          simp at hq
          exact hq.1.2
        have hr : r = decide (l.length < 2 * c) := by rw [HR.out]; unfold Qm.wins; rw [hq, HC.out]; rfl
        have HRR := Lib.hid hr
        have hc7 : c ≤ 7 := by have := HKL.out; omega
        rw [hq]
        clear hr hq
        go_wp2_with fail
        go_ret
        refine ⟨ret_bool ?_, rfl⟩
        rw [HRR.out]
        by_cases h : l.length < 2 * c
        · rw [decide_eq_true h, decide_eq_true (by omega)]
        · rw [decide_eq_false h, decide_eq_false (by omega)]
      · have hq' : Qm.chk l = false := by simpa using hq
        have hr : r = false := by rw [HR.out]; unfold Qm.wins; rw [hq']; rfl
        rw [hq']
        clear hq hq'
        go_wp2_with fail
        go_ret
        exact ⟨by first | rfl | exact ret_bool hr.symm, rfl⟩

set_option maxHeartbeats 1000000 in
theorem rwins_calls (A B : Option Addr) (cap cap' : Nat) (l s : List Int) (w : World) (hR : Hid (RdI w A l)) (hlen : l.length ≤ 9223372036854775807) (hS : Hid (RdI w B s)) (hsl : s.length ≤ 9223372036854775807) :
    Calls Tryz.prog 70 #[.slice A l.length cap, .slice B s.length cap'] w fun e w' => e = .returned (.bool (Qm.wins l s)) ∧ w = w' := by
  obtain ⟨r, hr⟩ : ∃ r, r = Qm.wins l s := ⟨_, rfl⟩
  rw [← hr]
  have HR := Lib.hid hr
  clear hr
  go_enter Tryz.func70, Tryz.ntmps70
  go_wp2_with fail
  refine (qrcheck_calls A cap l w hR hlen).mono ?_
  rintro e w' ⟨rfl, rfl⟩
  by_cases hq : Qm.chk l = true
  rotate_left
  · have hq' : Qm.chk l = false := by simpa using hq
    have hr : r = false := by rw [HR.out]; unfold Qm.wins; rw [hq']; rfl
    rw [hq']
    clear hq hq'
    go_wp2_with fail
    go_ret
    exact ⟨by first | rfl | exact ret_bool hr.symm, rfl⟩
  have hr2 : r = decide (l.length < 2 * Qm.cnt l s) := by rw [HR.out]; unfold Qm.wins; rw [hq]; rfl
  have HR2 := Lib.hid hr2
  rw [hq]
  clear hq hr2
  go_wp2_with fail
  go_loopg [5, 6, 7] l.length (fun g v5 v6 v7 W => W = w ∧ ∃ (k c d : Nat), v7 = .int .i64 k ∧ v5 = .int .i64 c ∧ v6 = .int .i64 d ∧ k + g = l.length ∧ c + d = k ∧ Hid (c = Qm.cnt (l.take k) s))
  case atStart => exact ⟨rfl, 0, 0, 0, rfl, rfl, rfl, by omega, by omega, Lib.hid (by simp [Qm.cnt])⟩
  case round =>
    obtain ⟨rfl, k, c, d, rfl, rfl, rfl, hkg, hck, HI⟩ := hrel
    have HG := Lib.hid hkg
    have HCD := Lib.hid hck
    have hc1 : c ≤ k := by omega
    have hd1 : d ≤ k := by omega
    by_cases hlt : k < l.length
    · have hl4 : (k : Int) < (l.length : Int) := by omega
      have hg : 0 < gk := by omega
      obtain ⟨b, off, rfl, _, p1⟩ := hR.out.int k hlt
      have hst := Qm.cnt_step l s k hlt
      generalize l.getD k default = z at *
      rw [← HI.out] at hst
      have HST := Lib.hid hst
      clear hkg hst hck
      go_wp2_with fail
      refine (has_calls B cap' s z wr hS hsl).mono ?_
      rintro e w' ⟨rfl, rfl⟩
      by_cases hz : z ∈ s
      · rw [decide_eq_true hz]
        have hst := HST.out
        rw [if_pos hz] at hst
        have HST2 := Lib.hid hst
        clear hst hz
        go_wp2_with fail
        go_roundg (gk - 1)
        case rel => exact ⟨rfl, k + 1, c + 1, d, by go_num, by go_num, rfl, by have := HG.out; omega, by have := HCD.out; omega, Lib.hid HST2.out.symm⟩
        case measure => omega
      · rw [decide_eq_false hz]
        have hst := HST.out
        rw [if_neg hz, Nat.add_zero] at hst
        have HST2 := Lib.hid hst
        clear hst hz
        go_wp2_with fail
        go_roundg (gk - 1)
        case rel => exact ⟨rfl, k + 1, c, d + 1, by go_num, rfl, by go_num, by have := HG.out; omega, by have := HCD.out; omega, Lib.hid HST2.out.symm⟩
        case measure => omega
    · have hl2 : ¬ (k : Int) < (l.length : Int) := by omega
      have hc : c = Qm.cnt l s := by rw [HI.out, show k = l.length from by omega, List.take_length]
      have HC := Lib.hid hc
      have hkl : k = l.length := by omega
      have HKL := Lib.hid hkl
      clear hkg hc hkl hck
      go_wp2_with fail
      go_ret
      refine ⟨ret_bool ?_, rfl⟩
      rw [HR2.out, ← HC.out, ← HKL.out]
      have := HCD.out
      by_cases h : k < 2 * c
      · rw [decide_eq_true h, decide_eq_true (by omega)]
      · rw [decide_eq_false h, decide_eq_false (by omega)]

end Go.Proofs.YtdladjgdhnkkcaaGreat
