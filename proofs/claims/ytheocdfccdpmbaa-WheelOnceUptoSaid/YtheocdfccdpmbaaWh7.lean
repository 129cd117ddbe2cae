/-
  Contract: items sorted by the library.
  Conditions: the call owns the row.
-/
import Derived.Test.YtheocdfccdpmbaaWh6
import Derived.Shelf.SlGeneric
namespace Go.Proofs.Ytheocdfccdpmbaa
open Go.RowKit Go.Maps Go.Shelf Go.Sort Go.Proofs
set_option linter.unusedVariables false
set_option linter.unusedSimpArgs false
set_option maxHeartbeats 4000000

def sortW_ren : Go.Shelf.Ren := ⟨fun | 6 => 42 | 15 => 59 | 14 => 58 | 28 => 76 | 29 => 77 | 20 => 68 | 21 => 69 | 22 => 70 | 23 => 71 | 24 => 72 | 25 => 73 | 26 => 74 | 27 => 75 | 46 => 90 | 47 => 91 | 48 => 92 | 49 => 93 | 50 => 94 | 57 => 99 | n => n, fun | 22 => 22 | 24 => 31 | 25 => 81 | 3 => 3 | 39 => 101 | 0 => 0 | 53 => 119 | 55 => 121 | 4 => 4 | 46 => 112 | 45 => 111 | 50 => 116 | 5 => 5 | 9 => 9 | 66 => 130 | 70 => 134 | 76 => 138 | 77 => 139 | n => n, fun | n => n⟩
theorem sortW : Go.Proofs.SlLaysF0.n6 Try.prog sortW_ren := {
  mixed := by kernel_rfl
  f6 := ⟨Try.f42.name, by decide, Try.func42.trans (congrArg some (by kernel_rfl))⟩
  f14 := ⟨Try.f58.name, by decide, Try.func58.trans (congrArg some (by kernel_rfl))⟩
  f15 := Try.func59.trans (congrArg some (by kernel_rfl))
  f20 := ⟨Try.f68.name, by decide, Try.func68.trans (congrArg some (by kernel_rfl))⟩
  f21 := ⟨Try.f69.name, by decide, Try.func69.trans (congrArg some (by kernel_rfl))⟩
  f22 := ⟨Try.f70.name, by decide, Try.func70.trans (congrArg some (by kernel_rfl))⟩
  f23 := ⟨Try.f71.name, by decide, Try.func71.trans (congrArg some (by kernel_rfl))⟩
  f24 := ⟨Try.f72.name, by decide, Try.func72.trans (congrArg some (by kernel_rfl))⟩
  f25 := ⟨Try.f73.name, by decide, Try.func73.trans (congrArg some (by kernel_rfl))⟩
  f26 := ⟨Try.f74.name, by decide, Try.func74.trans (congrArg some (by kernel_rfl))⟩
  f27 := ⟨Try.f75.name, by decide, Try.func75.trans (congrArg some (by kernel_rfl))⟩
  f28 := Try.func76.trans (congrArg some (by kernel_rfl))
  f29 := Try.func77.trans (congrArg some (by kernel_rfl))
  f46 := ⟨Try.f90.name, by decide, Try.func90.trans (congrArg some (by kernel_rfl))⟩
  f47 := Try.func91.trans (congrArg some (by kernel_rfl))
  f48 := Try.func92.trans (congrArg some (by kernel_rfl))
  f49 := ⟨Try.f93.name, by decide, Try.func93.trans (congrArg some (by kernel_rfl))⟩
  f50 := ⟨Try.f94.name, by decide, Try.func94.trans (congrArg some (by kernel_rfl))⟩
  f57 := ⟨Try.f99.name, by decide, Try.func99.trans (congrArg some (by kernel_rfl))⟩
  t0 := Try.underlying0
  a0 := Try.isAgg0
  z0 := Try.sizeOf0
  v0 := Try.zeroValue0
  t3 := Try.underlying3
  a3 := Try.isAgg3
  z3 := Try.sizeOf3
  v3 := Try.zeroValue3
  t4 := Try.underlying4
  a4 := Try.isAgg4
  z4 := Try.sizeOf4
  v4 := Try.zeroValue4
  t5 := Try.underlying5
  a5 := Try.isAgg5
  z5 := Try.sizeOf5
  v5 := Try.zeroValue5
  t9 := Try.underlying9
  a9 := Try.isAgg9
  z9 := Try.sizeOf9
  v9 := Try.zeroValue9
  t22 := Try.underlying22
  a22 := Try.isAgg22
  z22 := Try.sizeOf22
  v22 := Try.zeroValue22
  t25 := Try.underlying81
  a25 := Try.isAgg81
  z25 := Try.sizeOf81
  v25 := Try.zeroValue81
  t39 := Try.underlying101
  a39 := Try.isAgg101
  z39 := Try.sizeOf101
  v39 := Try.zeroValue101
  t45 := Try.underlying111
  a45 := Try.isAgg111
  z45 := Try.sizeOf111
  v45 := Try.zeroValue111
  t46 := Try.underlying112
  a46 := Try.isAgg112
  z46 := Try.sizeOf112
  v46 := Try.zeroValue112
  t50 := Try.underlying116
  a50 := Try.isAgg116
  z50 := Try.sizeOf116
  v50 := Try.zeroValue116
  t53 := Try.underlying119
  a53 := Try.isAgg119
  z53 := Try.sizeOf119
  v53 := Try.zeroValue119
  t55 := Try.underlying121
  a55 := Try.isAgg121
  z55 := Try.sizeOf121
  v55 := Try.zeroValue121
  t66 := Try.underlying130
  a66 := Try.isAgg130
  z66 := Try.sizeOf130
  v66 := Try.zeroValue130
  t70 := Try.underlying134
  a70 := Try.isAgg134
  z70 := Try.sizeOf134
  v70 := Try.zeroValue134
  t76 := Try.underlying138
  a76 := Try.isAgg138
  z76 := Try.sizeOf138
  v76 := Try.zeroValue138
  t77 := Try.underlying139
  a77 := Try.isAgg139
  z77 := Try.sizeOf139
  v77 := Try.zeroValue139 }

theorem ltW (x y : Itm) : ltOf cfW x y = decide (Wh.before x y) := by
  unfold ltOf
  rw [decide_eq_decide]
  unfold cfW cmpI Wh.before
  by_cases h1 : x.at_ < y.at_
  · simp [h1]
  · by_cases h2 : y.at_ < x.at_
    · simp [h1, h2]; omega
    · have e : x.at_ = y.at_ := by omega
      by_cases h3 : x.id < y.id
      · simp [e, h3]
      · by_cases h4 : y.id < x.id <;> simp [e, h3, h4]
theorem swoW : SWO (ltOf cfW) where
  irrefl x := by rw [ltW]; exact decide_eq_false (Wh.before_irr x)
  trans x y z h1 h2 := by rw [ltW] at *; simp only [decide_eq_true_eq] at *; exact Wh.before_trans h1 h2
  ntrans x y z h1 h2 := by rw [ltW] at *; simp only [decide_eq_false_iff_not] at *; unfold Wh.before at *; omega
theorem cmpLaysW (blk off size : Nat) (w : World) : CmpLays Try.prog 43 #[] layW.cells 2 cfW blk off size w := fun _ _ _ _ x y => compare_calls x y _
theorem sort_calls {base : Nat} {v : Value} {xs : List Itm} {w : World} (H : Hid (OwnL layW 31 w base v xs)) (hl : xs.length ≤ 1000000) :
    Calls Try.prog 42 #[v, .func (.func 43) #[] #[]] w fun e w' => e = .returned (.tuple #[]) ∧ (∃ ts, ts.Perm xs ∧ ts.Pairwise (fun x y => ¬ Wh.before y x) ∧ OwnL layW 31 w' base v ts) ∧ w.grownBy w' v.ownBlock := by
  rcases Nat.eq_zero_or_pos xs.length with h0 | h0
  · obtain ⟨A, cap, rfl, -, -, -, -⟩ := H.out.form
    have hx : xs = [] := List.eq_nil_of_length_eq_zero h0
    have hc := AnyF.slices_SortFunc_none (P := Try.prog) (ρ := sortW_ren) sortW A cap (.func (.func 43) #[] #[]) w
    change Calls Try.prog 42 _ _ _ at hc
    rw [h0]
    refine hc.mono ?_
    rintro e w' ⟨rfl, rfl⟩
    subst hx
    exact ⟨rfl, ⟨[], .refl _, .nil, H.out⟩, World.grownBy.refl _ _⟩
  · obtain ⟨g, cap, rfl, hg, hH, hT⟩ := H.out.sort h0
    have hc := AnyQ.slices_SortFunc (P := Try.prog) (ρ := sortW_ren) sortW 2 Try.isAgg31 Try.sizeOf31 layW.cells (fun _ => rfl) layW.one cfW swoW 43 #[] g 0 cap xs.toArray w (enters_of Try.func43 (by kernel_rfl) rfl) (cmpLaysW _ _ _ _) hH hg (by simp; omega)
    change Calls Try.prog 42 _ _ _ at hc
    rw [show xs.toArray.size = xs.length from by simp] at hc
    refine hc.mono ?_
    rintro e w' ⟨rfl, d', n, os, hp, hs, rfl⟩
    have hp2 : PermIn 0 xs.toArray.size xs.toArray d' := by simpa using hp
    have hs2 : SortedIn (ltOf cfW) 0 xs.toArray.size d' := by simpa using hs
    obtain ⟨k1, k2, k3, k4⟩ := sorted_list hp2 hs2
    obtain ⟨t1, t2⟩ := hT d'.toList k4 n os
    rw [← k3] at t1 t2
    exact ⟨rfl, ⟨d'.toList, k1, k2.imp (fun {a b} h => by rw [ltW] at h; simpa using h), t1⟩, t2⟩
end Go.Proofs.Ytheocdfccdpmbaa
