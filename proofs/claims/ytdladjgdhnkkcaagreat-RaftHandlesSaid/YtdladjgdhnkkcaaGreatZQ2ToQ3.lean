
/-
  2 texts in one.
  Conditions: stated lemma by lemma.
-/
import Derived.Test.YtdladjgdhnkkcaaGreatZQ1
import Derived.BigQuiet
import Derived.RegionTactic
import Derived.Deep.RegionHeld3
import Derived.Lib.Strings
import Derived.Lib.Slices
import Derived.Lib.Small
import Derived.Lib.Walk
import Derived.Lib.BitFns
/-
  slices.Sort of at most twelve numbers, on a row of the call's own: a rising order of them.
  Conditions: not more than 12 numbers.
-/
namespace Go.Proofs.YtdladjgdhnkkcaaGreat
open Go.RowKit
set_option linter.unusedVariables false
set_option linter.unusedSimpArgs false
set_option linter.unusedSectionVars false

namespace Qm
/-- rising up to the i-th, but for the j-th, which is no more than what stands behind it -/
def Hole (l : List Int) (i j : Nat) : Prop := (∀ p q, p < q → q ≤ i → p ≠ j → q ≠ j → l.getD p 0 ≤ l.getD q 0) ∧ (∀ q, j < q → q ≤ i → l.getD j 0 ≤ l.getD q 0)
/-- rising below i -/
def Up (l : List Int) (i : Nat) : Prop := ∀ p q, p < q → q < i → l.getD p 0 ≤ l.getD q 0
theorem up_hole {l : List Int} {i : Nat} (h : Up l i) : Hole l i i := ⟨fun p q hp hq _ hqi => h p q hp (by omega), fun q h1 h2 => by omega⟩
theorem hole_up {l : List Int} {i j : Nat} (h : Hole l i j) (hj : j = 0 ∨ l.getD (j - 1) 0 ≤ l.getD j 0) : Up l (i + 1) := fun p q hp hq => by
  by_cases hpj : p = j
  · subst hpj; exact h.2 q hp (by omega)
  · by_cases hqj : q = j
    · subst hqj
      rcases hj with rfl | hj
      · omega
      · by_cases hpp : p = q - 1
        · rw [hpp]; exact hj
        · exact Int.le_trans (h.1 p (q - 1) (by omega) (by omega) (by omega) (by omega)) hj
    · exact h.1 p q hp (by omega) hpj hqj
/-- two neighbours changed -/
def swp (l : List Int) (j : Nat) : List Int := (l.set j (l.getD (j - 1) 0)).set (j - 1) (l.getD j 0)
theorem swp_get (l : List Int) (j p : Nat) (hj : j < l.length) (h0 : 0 < j) : (swp l j).getD p 0 = if p = j then l.getD (j - 1) 0 else if p = j - 1 then l.getD j 0 else l.getD p 0 := by
  unfold swp
  simp only [List.getD, List.getElem?_set, List.length_set]
  by_cases h1 : p = j
  · subst h1
    rw [if_neg (by omega)]
    simp [hj]
  · by_cases h2 : p = j - 1
    · subst h2
      simp [show j - 1 < l.length by omega, h1]
    · rw [if_neg (by omega), if_neg (by omega), if_neg h1, if_neg h2]
theorem swp_perm (l : List Int) (j : Nat) (hj : j < l.length) (h0 : 0 < j) : (swp l j).Perm l := by
  have := @List.set_set_perm _ l j (j - 1) hj (by omega)
  unfold swp
  simp only [List.getD, List.getElem?_eq_getElem hj, List.getElem?_eq_getElem (show j - 1 < l.length by omega), Option.getD_some]
  exact this
theorem swp_hole {l : List Int} {i j : Nat} (h : Hole l i j) (hj : j < l.length) (h0 : 0 < j) (hji : j ≤ i) (hlt : l.getD j 0 < l.getD (j - 1) 0) : Hole (swp l j) i (j - 1) := by
  constructor
  · intro p q hp hq h1 h2
    rw [swp_get l j p hj h0, swp_get l j q hj h0, if_neg h1, if_neg h2]
    by_cases hpj : p = j
    · rw [if_pos hpj, if_neg (by omega)]
      exact h.1 (j - 1) q (by omega) hq (by omega) (by omega)
    · rw [if_neg hpj]
      by_cases hqj : q = j
      · rw [if_pos hqj]
        exact h.1 p (j - 1) (by omega) (by omega) hpj (by omega)
      · rw [if_neg hqj]
        exact h.1 p q hp hq hpj hqj
  · intro q h1 h2
    rw [swp_get l j (j - 1) hj h0, swp_get l j q hj h0, if_neg (by omega), if_pos rfl]
    by_cases hqj : q = j
    · rw [if_pos hqj]; omega
    · rw [if_neg hqj, if_neg (by omega)]
      exact h.2 q (by omega) h2
theorem up_pair {l : List Int} (h : Up l l.length) : l.Pairwise (· ≤ ·) := by
  rw [List.pairwise_iff_getElem]
  intro i j hi hj hij
  have := h i j hij hj
  simpa [List.getD, hi, hj] using this
/-- two rising lists of the same numbers are one -/
theorem rise_eq : ∀ {a b : List Int}, a.Perm b → a.Pairwise (· ≤ ·) → b.Pairwise (· ≤ ·) → a = b
  | [], b, hp, _, _ => (List.perm_nil.1 hp.symm).symm
  | x :: a, [], hp, _, _ => absurd (List.perm_nil.1 hp) (by simp)
  | x :: a, y :: b, hp, ha, hb => by
    have hx : x ∈ y :: b := hp.subset (by simp)
    have hy : y ∈ x :: a := hp.symm.subset (by simp)
    rw [List.pairwise_cons] at ha hb
    have hxy : x = y := by
      rcases List.mem_cons.1 hx with h | h
      · exact h
      · rcases List.mem_cons.1 hy with h' | h'
        · exact h'.symm
        · have h1 := hb.1 x h
          have h2 := ha.1 y h'
          omega
    subst hxy
    rw [rise_eq (List.Perm.cons_inv hp) ha.2 hb.2]
end Qm

theorem OwnL.block {α : Type} [Inhabited α] {L : Lay α} {e : TypeId} {w : World} {base : Nat} {v : Value} {xs : List α} (h : OwnL L e w base v xs) (h0 : 0 < xs.length) :
    ∃ g cap, v = .slice (some ⟨g, 0, none⟩) xs.length cap ∧ base ≤ g ∧ g < w.heap.size ∧ xs.length ≤ cap ∧ cap ≤ maxLen := by
  rcases h.2 with ⟨rfl, e⟩ | ⟨g, cap, cur, rfl, h1, h2, h3, h4, _⟩
  · omega
  · refine ⟨g, cap, rfl, h1, ?_, h3, h4⟩
    rcases Nat.lt_or_ge g w.heap.size with hl | hl
    · exact hl
    · rw [Array.getElem?_eq_none hl] at h2; cases h2
theorem flatI (k : IntKind) (xs : List Int) : (layI k).flat xs = xs.map fun x => .int k x := by
  induction xs with
  | nil => rfl
  | cons x xs ih =>
    have : (layI k).flat (x :: xs) = .int k x :: (layI k).flat xs := by simp [Lay.flat, layI]
    rw [this, ih]; rfl
theorem OwnL.at_ {k : IntKind} {e : TypeId} {w : World} {base g n cap : Nat} {xs : List Int} (h : OwnL (layI k) e w base (.slice (some ⟨g, 0, none⟩) n cap) xs) (j : Nat) (hj : j < xs.length) :
    w.cell? ⟨g, j, none⟩ = some (.int k (xs.getD j 0)) ∧ w.frozen? ⟨g, j, none⟩ = false := by
  have hn : n = xs.length := by
    rcases h.2 with ⟨e, _⟩ | ⟨g', cap', cur, e, _⟩
    · cases e
    · injection e
  subst hn
  refine ⟨?_, h.frozenAt j⟩
  rw [h.cellAt j (by show j < xs.length * 1; omega), flatI]
  simp [hj, List.getD]
theorem OwnL.put {k : IntKind} {e : TypeId} {w : World} {base g n cap : Nat} {xs : List Int} (h : OwnL (layI k) e w base (.slice (some ⟨g, 0, none⟩) n cap) xs) (j : Nat) (y : Int) :
    OwnL (layI k) e (w.setCell ⟨g, j, none⟩ (.int k y)) base (.slice (some ⟨g, 0, none⟩) n cap) (xs.set j y) := by
  have hn : n = xs.length := by
    rcases h.2 with ⟨e, _⟩ | ⟨g', cap', cur, e, _⟩
    · cases e
    · injection e
  subst hn
  have := (h.stored j (.int k y)).1
  unfold OwnL
  rw [flatI, List.map_set, ← flatI, List.length_set]
  exact this
/-- since w nothing but the block g has changed, and no block has been made -/
theorem grown_set {w w0 : World} {g : Nat} (h : w0.grownBy w (some g)) (i : Nat) (v : Value) : w0.grownBy (w.setCell ⟨g, i, none⟩ v) (some g) :=
  ⟨h.os, h.tape, h.output, by simpa using h.size, fun k hk hne => (Below.heap_setCell w ⟨g, i, none⟩ v k (by intro e; exact hne (by rw [e]))).trans (h.block k hk hne)⟩
theorem grown_drew {w w0 : World} {r : Option Nat} (h : w0.grownBy w r) : w0.grownBy w.drew r := ⟨h.os, h.tape, h.output, h.size, h.block⟩
theorem grown_drewN {w w0 : World} {r : Option Nat} (h : w0.grownBy w r) (n : Nat) : w0.grownBy (w.drewN n) r := ⟨h.os, h.tape, h.output, h.size, h.block⟩

set_option maxRecDepth 100000 in
set_option maxHeartbeats 4000000 in
theorem len64_calls (x : Int) (w : World) (h0 : 0 ≤ x) (h1 : x ≤ 12) : Calls Tryz.prog 112 #[.int .u64 x] w fun e w' => (∃ i : Int, e = .returned (.int .i64 i)) ∧ w = w' := by
  have hs : Lib.len8tab.size = 256 := by kernel_rfl
  have h2 : x < 256 := by omega
  go_enter Tryz.func112, Tryz.ntmps112
  go_wp2
  all_goals (go_ret; exact ⟨⟨_, rfl⟩, rfl⟩)
theorem len_calls (x : Int) (w : World) (h0 : 0 ≤ x) (h1 : x ≤ 12) : Calls Tryz.prog 101 #[.int .u64 x] w fun e w' => (∃ i : Int, e = .returned (.int .i64 i)) ∧ w = w' := by
  have hl := Lib.hid (len64_calls x w h0 h1)
  go_enter Tryz.func101, Tryz.ntmps101
  go_wp2_with fail
  refine hl.out.mono ?_
  rintro e w' ⟨⟨i, rfl⟩, rfl⟩
  go_wp2_with fail
  go_ret
  exact ⟨⟨_, rfl⟩, rfl⟩

theorem nanL_calls (x : Int) (w : World) : Calls Tryz.prog 118 #[.int .i64 x] w fun e w' => e = .returned (.bool false) ∧ w = w' := by
  go_enter Tryz.func118, Tryz.ntmps118
  go_wp2_with fail
  go_ret
  exact ⟨by simp, rfl⟩
theorem lessL_calls (x y : Int) (w : World) : Calls Tryz.prog 108 #[.int .i64 x, .int .i64 y] w fun e w' => e = .returned (.bool (decide (x < y))) ∧ w = w' := by
  have hn := Lib.hid (nanL_calls)
  go_enter Tryz.func108, Tryz.ntmps108
  go_wp2_with fail
  refine (hn.out x w).mono ?_
  rintro e w' ⟨rfl, rfl⟩
  go_wp2_with fail
  go_ret
  exact ⟨by simp, rfl⟩

set_option maxRecDepth 20000 in
set_option maxHeartbeats 4000000 in
theorem isortL_calls (base g cap : Nat) (xs : List Int) (w : World) (hO : Hid (OwnL (layI .i64) 2 w base (.slice (some ⟨g, 0, none⟩) xs.length cap) xs)) (hlen : xs.length ≤ 12) :
    Calls Tryz.prog 102 #[.slice (some ⟨g, 0, none⟩) xs.length cap, .int .i64 0, .int .i64 xs.length] w fun e w' => e = .returned (.tuple #[]) ∧
      ∃ ys, ys.Perm xs ∧ ys.Pairwise (· ≤ ·) ∧ OwnL (layI .i64) 2 w' base (.slice (some ⟨g, 0, none⟩) xs.length cap) ys ∧ w.grownBy w' (some g) := by
  go_enter Tryz.func102, Tryz.ntmps102
  go_wp2_with fail
  go_loopg [6, 7] xs.length (fun n v6 v7 W => ∃ i : Nat, v6 = .int .i64 i ∧ 1 ≤ i ∧ i + n = xs.length + 1 ∧ Hid (∃ l, l.Perm xs ∧ Qm.Up l i ∧ OwnL (layI .i64) 2 W base (.slice (some ⟨g, 0, none⟩) xs.length cap) l ∧ w.grownBy W (some g)))
  case atStart => exact ⟨1, rfl, by omega, by omega, Lib.hid ⟨xs, List.Perm.refl _, fun p q h1 h2 => by omega, hO.out, World.grownBy.refl w _⟩⟩
  case round =>
    obtain ⟨i, rfl, hi1, hin, HI⟩ := hrel
    have HN := Lib.hid hin
    by_cases hlt : i < xs.length
    · have hl : (i : Int) < (xs.length : Int) := by omega
      have hg : 0 < gk := by omega
      clear hin
      generalize gk = gk0 at *
      go_wp2_with fail
      go_loopg [7] i (fun n v7 W => v7 = .int .i64 n ∧ n ≤ i ∧ Hid (∃ l, l.Perm xs ∧ Qm.Hole l i n ∧ OwnL (layI .i64) 2 W base (.slice (some ⟨g, 0, none⟩) xs.length cap) l ∧ w.grownBy W (some g)))
      case atStart =>
        obtain ⟨l, h1, h2, h3, h4⟩ := HI.out
        exact ⟨rfl, Nat.le_refl _, Lib.hid ⟨l, h1, Qm.up_hole h2, h3, h4⟩⟩
      case round =>
        obtain ⟨rfl, hji, HJ⟩ := hrel
        obtain ⟨l, h1, h2, h3, h4⟩ := HJ.out
        have hll : l.length = xs.length := h1.length_eq
        have HP := Lib.hid h1
        have HH := Lib.hid h2
        have HO := Lib.hid h3
        have HG := Lib.hid h4
        clear h1 h2 h3 h4 HJ HI
        rcases gk with _ | j
        · have HU := Lib.hid (Qm.hole_up HH.out (.inl rfl))
          go_wp2_with fail
          go_quiet (fail)
          go_wp2_with fail
          go_roundg (gk0 - 1)
          case rel => exact ⟨i + 1, by go_num, by omega, by have := HN.out; omega, Lib.hid ⟨l, HP.out, HU.out, HO.out.kept (bel_drewN (Below.refl _ _) _), grown_drewN HG.out _⟩⟩
          case measure => omega
        · obtain ⟨jj, hjj⟩ : ∃ jj, jj = j + 1 := ⟨_, rfl⟩
          have c1 := HO.out.at_ (j + 1) (by omega)
          have c2 := HO.out.at_ j (by omega)
          have hj0 : (0 : Int) < ((j + 1 : Nat) : Int) := by omega
          have hjl : ((j + 1 : Nat) : Int) < (xs.length : Int) := by omega
          have hjl2 : ((j : Nat) : Int) < (xs.length : Int) := by omega
          have hjw : IntKind.i64.wrap (((j + 1 : Nat) : Int) - 1) = ((j : Nat) : Int) := by rw [IntKind.wrap_i64]; omega
          have hjw2 : wrap64 (((j + 1 : Nat) : Int) - 1) = ((j : Nat) : Int) := by unfold wrap64; omega
          have hsub : ((j + 1 : Nat) : Int) - 1 = ((j : Nat) : Int) := by omega
          have HSW := Lib.hid (fun h => Qm.swp_hole (l := l) (i := i) (j := j + 1) HH.out (by omega) (by omega) hji h)
          have HU := Lib.hid (fun h => Qm.hole_up (l := l) (i := i) (j := j + 1) HH.out (.inr h))
          have HPW := Lib.hid ((Qm.swp_perm l (j + 1) (by omega) (by omega)).trans HP.out)
          have HOW : Hid (∀ W, OwnL (layI .i64) 2 W base (.slice (some ⟨g, 0, none⟩) xs.length cap) l → w.grownBy W (some g) → OwnL (layI .i64) 2 ((W.setCell ⟨g, j + 1, none⟩ (.int .i64 (l.getD j 0))).setCell ⟨g, j, none⟩ (.int .i64 (l.getD (j + 1) 0))) base (.slice (some ⟨g, 0, none⟩) xs.length cap) (Qm.swp l (j + 1)) ∧ w.grownBy ((W.setCell ⟨g, j + 1, none⟩ (.int .i64 (l.getD j 0))).setCell ⟨g, j, none⟩ (.int .i64 (l.getD (j + 1) 0))) (some g)) := Lib.hid (fun W h1 h2 => ⟨(h1.put (j + 1) (l.getD j 0)).put j (l.getD (j + 1) 0), grown_set (grown_set h2 _ _) _ _⟩)
          obtain ⟨x, hx⟩ : ∃ x, x = l.getD (j + 1) 0 := ⟨_, rfl⟩
          obtain ⟨y, hy⟩ : ∃ y, y = l.getD j 0 := ⟨_, rfl⟩
          rw [← hx] at c1
          rw [← hy] at c2
          have HX := Lib.hid hx
          have HY := Lib.hid hy
          obtain ⟨c1, f1⟩ := c1
          obtain ⟨c2, f2⟩ := c2
          clear hx hy hjj
          by_cases hxy : x < y
          · have hd : decide (x < y) = true := decide_eq_true hxy
            have HSWP := Lib.hid (HSW.out (by rw [← HX.out, show j + 1 - 1 = j from rfl, ← HY.out]; exact hxy))
            go_wp2_with fail
            go_quiet ((go_at_call 108; exact quiet_of_eq (lessL_calls x y _)))
            go_wp2_with fail
            go_region
            go_wp2_with fail
            rw [HX.out, HY.out]
            go_roundg j
            case rel => exact ⟨by go_num, by omega, Lib.hid ⟨Qm.swp l (j + 1), HPW.out, HSWP.out, (HOW.out _ (HO.out.kept (bel_drew (bel_drewN (Below.refl _ _) _))) (grown_drew (grown_drewN HG.out _))).1, (HOW.out _ (HO.out.kept (bel_drew (bel_drewN (Below.refl _ _) _))) (grown_drew (grown_drewN HG.out _))).2⟩⟩
            case measure => omega
          · have hd : decide (x < y) = false := decide_eq_false hxy
            have HUP := Lib.hid (HU.out (by rw [← HX.out, show j + 1 - 1 = j from rfl, ← HY.out]; omega))
            go_wp2_with fail
            go_quiet ((go_at_call 108; exact quiet_of_eq (lessL_calls x y _)))
            go_wp2_with fail
            go_roundg (gk0 - 1)
            case rel => exact ⟨i + 1, by go_num, by omega, by have := HN.out; omega, Lib.hid ⟨l, HP.out, HUP.out, HO.out.kept (bel_drewN (Below.refl _ _) _), grown_drewN HG.out _⟩⟩
            case measure => omega
    · have hl : ¬ (i : Int) < (xs.length : Int) := by omega
      clear hin
      go_wp2_with fail
      go_end0
      obtain ⟨l, h1, h2, h3, h4⟩ := HI.out
      refine ⟨rfl, l, h1, ?_, h3, h4⟩
      have hll : l.length = xs.length := h1.length_eq
      exact Qm.up_pair (fun p q a b => h2 p q a (by omega))
end Go.Proofs.YtdladjgdhnkkcaaGreat

/-
  slices.Sort of at most twelve numbers, whole.
  Conditions: not more than 12 numbers.
-/
namespace Go.Proofs.YtdladjgdhnkkcaaGreat
open Go.RowKit
set_option linter.unusedVariables false
set_option linter.unusedSimpArgs false

theorem isort0L_calls (A : Option Addr) (cap : Nat) (w : World) :
    Calls Tryz.prog 102 #[.slice A 0 cap, .int .i64 0, .int .i64 0] w fun e w' => e = .returned (.tuple #[]) ∧ w = w' := by
  go_enter Tryz.func102, Tryz.ntmps102
  go_wp2_with fail
  go_loopg [6, 7] 1 (fun n v6 v7 W => W = w ∧ v6 = .int .i64 1)
  case atStart => exact ⟨rfl, rfl⟩
  case round =>
    obtain ⟨rfl, rfl⟩ := hrel
    go_wp2_with fail
    go_end0
    exact ⟨rfl, rfl⟩
set_option maxRecDepth 20000 in
set_option maxHeartbeats 4000000 in
theorem pdqL_calls (A : Option Addr) (cap n : Nat) (lim : Int) (w : World) (R : Ending → World → Prop) (hn : n ≤ 12)
    (hI : Hid (Calls Tryz.prog 102 #[.slice A n cap, .int .i64 0, .int .i64 n] w fun e w' => e = .returned (.tuple #[]) ∧ R e w')) :
    Calls Tryz.prog 100 #[.slice A n cap, .int .i64 0, .int .i64 n, .int .i64 lim] w fun e w' => e = .returned (.tuple #[]) ∧ R e w' := by
  have h12 : (n : Int) ≤ 12 := by omega
  go_enter Tryz.func100, Tryz.ntmps100
  go_wp2_with fail
  go_loopg [1, 2, 3, 8, 9] 1 (fun g v1 v2 v3 v8 v9 W => W = w ∧ v1 = .int .i64 0 ∧ v2 = .int .i64 n)
  case atStart => exact ⟨rfl, rfl, rfl⟩
  case round =>
    obtain ⟨rfl, rfl, rfl⟩ := hrel
    go_wp2_with fail
    refine hI.out.mono ?_
    rintro e w' ⟨rfl, hr⟩
    go_wp2_with fail
    first | go_end0 | (simp only [Exit.inBlock, Exit.then]; refine bodyPost_ret (results_none rfl _ _ _) rfl ?_) | refine bodyPost_ret (results_none rfl _ _ _) rfl ?_
    exact ⟨rfl, hr⟩
theorem sort0L_calls (A : Option Addr) (cap : Nat) (w : World) :
    Calls Tryz.prog 96 #[.slice A 0 cap] w fun e w' => e = .returned (.tuple #[]) ∧ w = w' := by
  have hl := Lib.hid (len_calls 0)
  have hp := Lib.hid (fun lim => pdqL_calls A cap 0 lim w (fun _ w' => w = w') (by decide) (Lib.hid (isort0L_calls A cap w)))
  go_enter Tryz.func96, Tryz.ntmps96
  go_wp2_with fail
  refine (hl.out w (by decide) (by decide)).mono ?_
  rintro e w' ⟨⟨i, rfl⟩, rfl⟩
  go_wp2_with fail
  refine (hp.out i).mono ?_
  rintro e w' ⟨rfl, rfl⟩
  go_wp2_with fail
  go_end0
  exact ⟨rfl, rfl⟩
theorem sortL_calls (base : Nat) (v : Value) (xs : List Int) (w : World) (hO : Hid (OwnL (layI .i64) 2 w base v xs)) (hlen : xs.length ≤ 12) :
    Calls Tryz.prog 96 #[v] w fun e w' => e = .returned (.tuple #[]) ∧ ∃ ys, ys.Perm xs ∧ ys.Pairwise (· ≤ ·) ∧ OwnL (layI .i64) 2 w' base v ys ∧ w.grownBy w' v.ownBlock := by
  rcases Nat.eq_zero_or_pos xs.length with h0 | h0
  · have hx : xs = [] := List.eq_nil_of_length_eq_zero h0
    subst hx
    obtain ⟨A, cap, rfl, _⟩ := hO.out.form
    refine (sort0L_calls A cap w).mono ?_
    rintro e w' ⟨rfl, rfl⟩
    exact ⟨rfl, [], List.Perm.refl _, List.Pairwise.nil, hO.out, World.grownBy.refl w _⟩
  · obtain ⟨g, cap, rfl, _, _, _, _⟩ := hO.out.block h0
    have hl := Lib.hid (fun w => len_calls xs.length w (by omega) (by omega))
    have hp := Lib.hid (fun lim => pdqL_calls (some ⟨g, 0, none⟩) cap xs.length lim w _ hlen (Lib.hid (isortL_calls base g cap xs w hO hlen)))
    have q2 : IntKind.u64.wrap (xs.length : Int) = (xs.length : Int) := by simp [IntKind.wrap, IntKind.bits, IntKind.signed]; omega
    go_enter Tryz.func96, Tryz.ntmps96
    go_wp2_with fail
    refine (hl.out w).mono ?_
    rintro e w' ⟨⟨i, rfl⟩, rfl⟩
    go_wp2_with fail
    refine (hp.out i).mono ?_
    rintro e w' ⟨rfl, hr⟩
    go_wp2_with fail
    go_end0
    exact ⟨rfl, hr⟩
end Go.Proofs.YtdladjgdhnkkcaaGreat
