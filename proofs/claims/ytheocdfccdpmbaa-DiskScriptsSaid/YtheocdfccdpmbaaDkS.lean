/-
  Contract: names sorted by the library.
  Conditions: the call owns the row.
-/
import Derived.Test.YtheocdfccdpmbaaDkT
import Derived.Shelf.Sort.Plain
import Derived.Shelf.Slices.In.SortNone
import Derived.Sort.OwnSorted
namespace Go.Proofs.Ytheocdfccdpmbaa
open Go.RowKit Go.Maps Go.Shelf Go.Sort Go.Proofs
set_option linter.unusedVariables false
set_option linter.unusedSimpArgs false
set_option maxHeartbeats 4000000

def sortS_ren : Go.Shelf.Ren := ⟨fun | 190 => 51 | 125 => 59 | 258 => 64 | 128 => 76 | 129 => 77 | 302 => 80 | 303 => 81 | 304 => 82 | 305 => 83 | 306 => 84 | 307 => 85 | 308 => 86 | 309 => 87 | 310 => 88 | 333 => 95 | 329 => 91 | 330 => 92 | 334 => 96 | 335 => 97 | 336 => 98 | 344 => 100 | n => n, fun | 31 => 43 | 9 => 9 | 3 => 3 | 46 => 101 | 0 => 0 | 51 => 119 | 53 => 121 | 4 => 4 | 183 => 112 | 182 => 111 | 131 => 116 | 5 => 5 | 218 => 130 | 222 => 134 | 228 => 138 | 229 => 139 | n => n, fun | n => n⟩
theorem sortS : Go.Proofs.Lays.n190 Try.prog sortS_ren := {
  mixed := by kernel_rfl
  f125 := Try.func59.trans (congrArg some (by kernel_rfl))
  f128 := Try.func76.trans (congrArg some (by kernel_rfl))
  f129 := Try.func77.trans (congrArg some (by kernel_rfl))
  f190 := Try.func51.trans (congrArg some (by kernel_rfl))
  f258 := Try.func64.trans (congrArg some (by kernel_rfl))
  f302 := Try.func80.trans (congrArg some (by kernel_rfl))
  f303 := Try.func81.trans (congrArg some (by kernel_rfl))
  f304 := Try.func82.trans (congrArg some (by kernel_rfl))
  f305 := Try.func83.trans (congrArg some (by kernel_rfl))
  f306 := Try.func84.trans (congrArg some (by kernel_rfl))
  f307 := Try.func85.trans (congrArg some (by kernel_rfl))
  f308 := Try.func86.trans (congrArg some (by kernel_rfl))
  f309 := Try.func87.trans (congrArg some (by kernel_rfl))
  f310 := Try.func88.trans (congrArg some (by kernel_rfl))
  f329 := Try.func91.trans (congrArg some (by kernel_rfl))
  f330 := Try.func92.trans (congrArg some (by kernel_rfl))
  f333 := Try.func95.trans (congrArg some (by kernel_rfl))
  f334 := Try.func96.trans (congrArg some (by kernel_rfl))
  f335 := Try.func97.trans (congrArg some (by kernel_rfl))
  f336 := Try.func98.trans (congrArg some (by kernel_rfl))
  f344 := Try.func100.trans (congrArg some (by kernel_rfl))
  t0 := Try.underlying0
  a0 := Try.isAgg0
  z0 := Try.sizeOf0
  v0 := Try.zeroValue0
  t3 := Try.underlying3
  a3 := Try.isAgg3
  z3 := Try.sizeOf3
  v3 := Try.zeroValue3
  t4 := Try.underlying4
  a4 := Try.isAgg4
  z4 := Try.sizeOf4
  v4 := Try.zeroValue4
  t5 := Try.underlying5
  a5 := Try.isAgg5
  z5 := Try.sizeOf5
  v5 := Try.zeroValue5
  t9 := Try.underlying9
  a9 := Try.isAgg9
  z9 := Try.sizeOf9
  v9 := Try.zeroValue9
  t31 := Try.underlying43
  a31 := Try.isAgg43
  z31 := Try.sizeOf43
  v31 := Try.zeroValue43
  t46 := Try.underlying101
  a46 := Try.isAgg101
  z46 := Try.sizeOf101
  v46 := Try.zeroValue101
  t51 := Try.underlying119
  a51 := Try.isAgg119
  z51 := Try.sizeOf119
  v51 := Try.zeroValue119
  t53 := Try.underlying121
  a53 := Try.isAgg121
  z53 := Try.sizeOf121
  v53 := Try.zeroValue121
  t131 := Try.underlying116
  a131 := Try.isAgg116
  z131 := Try.sizeOf116
  v131 := Try.zeroValue116
  t182 := Try.underlying111
  a182 := Try.isAgg111
  z182 := Try.sizeOf111
  v182 := Try.zeroValue111
  t183 := Try.underlying112
  a183 := Try.isAgg112
  z183 := Try.sizeOf112
  v183 := Try.zeroValue112
  t218 := Try.underlying130
  a218 := Try.isAgg130
  z218 := Try.sizeOf130
  v218 := Try.zeroValue130
  t222 := Try.underlying134
  a222 := Try.isAgg134
  z222 := Try.sizeOf134
  v222 := Try.zeroValue134
  t228 := Try.underlying138
  a228 := Try.isAgg138
  z228 := Try.sizeOf138
  v228 := Try.zeroValue138
  t229 := Try.underlying139
  a229 := Try.isAgg139
  z229 := Try.sizeOf139
  v229 := Try.zeroValue139 }
open Go.Sort Go.RowKit in
theorem sortS_calls (blk off cap : Nat) (ss : List (List UInt8)) (w : World) (hH : Holds encStr w blk off ss.toArray) (hblk : blk < w.heap.size) (hsz : ss.length < 4611686018427387904) :
    Calls Try.prog 51 #[.slice (some ⟨blk, off, none⟩) ss.length cap] w fun e w' =>
      e = .returned (.tuple #[]) ∧ ∃ n os, w' = grow (putRow encStr (Sort.ahead w n) blk off (ss.mergeSort fun x y => decide (x ≤ y)).toArray) os := Any.slices_Sort_string sortS blk off cap ss w hH hblk hsz
open Go.RowKit Go.Sort in
/-- .. and plain. (LAID: no walk: one application.) -/
theorem sortS_none (p : Option Addr) (cap : Nat) (w : World) :
    Calls Try.prog 51 #[.slice p 0 cap] w fun e w' => e = .returned (.tuple #[]) ∧ w' = w := Any.slices_Sort_string_none sortS p cap w

/-- names, in memory -/
def layN : Lay ByteArray := ⟨1, fun x => [.string x], fun _ => rfl, by decide, fun x u hu => by simp at hu; subst hu; rfl⟩
theorem layN_flat : ∀ xs : List ByteArray, layN.flat xs = (xs.map fun x => x.data.toList).map encStr
  | [] => rfl
  | x :: xs => by
    have ih := layN_flat xs
    unfold Lay.flat at ih ⊢
    rw [List.flatMap_cons, ih]
    rfl
namespace Dk
def mkB (l : List UInt8) : ByteArray := ⟨l.toArray⟩
theorem mkB_map : ∀ l : List (List UInt8), (l.map mkB).map (fun x => x.data.toList) = l
  | [] => rfl
  | x :: l => by rw [List.map_cons, List.map_cons, mkB_map l]; rfl
theorem map_mkB : ∀ F : List ByteArray, (F.map fun x => x.data.toList).map mkB = F
  | [] => rfl
  | x :: l => by rw [List.map_cons, List.map_cons, map_mkB l]; rfl
/-- names, sorted -/
def srt (F : List ByteArray) : List ByteArray := (((F.map fun x => x.data.toList).mergeSort fun x y => decide (x ≤ y))).map mkB
theorem srt_perm (F : List ByteArray) : (srt F).Perm F := by
  have h := (List.mergeSort_perm (F.map fun x => x.data.toList) fun x y => decide (x ≤ y)).map mkB
  rwa [map_mkB] at h
def leN (a b : ByteArray) : Prop := a.data.toList ≤ b.data.toList
theorem leN_anti {a b : ByteArray} (h : leN a b) (k : leN b a) : a = b := by
  have := List.le_antisymm h k
  exact ByteArray.ext (Array.toList_inj.1 this)
theorem srt_sorted (F : List ByteArray) : (srt F).Pairwise leN := by
  unfold srt
  rw [List.pairwise_map]
  refine (List.pairwise_mergeSort (le := fun x y : List UInt8 => decide (x ≤ y)) ?_ ?_ _).imp fun {a b} h => ?_
  · intro a b c h1 h2
    simp only [decide_eq_true_eq] at *
    exact List.le_trans h1 h2
  · intro a b
    simp only [Bool.or_eq_true, decide_eq_true_eq]
    exact List.le_total a b
  · simpa [leN, mkB] using h
theorem sorted_eq {A B : List ByteArray} (h1 : A.Pairwise leN) (h2 : B.Pairwise leN) (hp : A.Perm B) : A = B :=
  List.Perm.eq_of_pairwise (fun a b _ _ => leN_anti) h1 h2 hp
theorem srt_eq {A B : List ByteArray} (h : A.Perm B) : srt A = srt B := sorted_eq (srt_sorted A) (srt_sorted B) ((srt_perm A).trans (h.trans (srt_perm B).symm))
theorem srt_len (F : List ByteArray) : (srt F).length = F.length := (srt_perm F).length_eq
end Dk
theorem sortN_calls {v : Value} {xs : List ByteArray} {w : World} {b0 : Nat} (HO : Hid (OwnL layN 9 w b0 v xs)) (hl : xs.length ≤ 1000000) :
    Calls Try.prog 51 #[v] w fun e w' => e = .returned (.tuple #[]) ∧ OwnL layN 9 w' b0 v (Dk.srt xs) ∧ w.grownBy w' v.ownBlock := by
  have ho := HO.out
  rcases ho.2 with ⟨rfl, h0⟩ | ⟨g, cap, cur, rfl, h1, h2, h3, h4, h5, h6⟩
  · have hx : xs = [] := List.eq_nil_of_length_eq_zero h0
    subst hx
    refine (sortS_none none 0 w).mono ?_
    rintro e w' ⟨rfl, rfl⟩
    exact ⟨rfl, by have e1 : Dk.srt [] = [] := by unfold Dk.srt; simp
                   rw [e1]; exact ho, World.grownBy.refl _ _⟩
  · have hk : layN.k = 1 := rfl
    rw [hk] at h5 h6
    rw [layN_flat, Nat.mul_one] at h6
    have hll : xs.length = (xs.map fun x => x.data.toList).length := by simp
    rw [hll] at h6
    have hH := holds_of_block h2 h6
    have hc := sortS_calls g 0 cap (xs.map fun x => x.data.toList) w hH (Array.getElem?_eq_some_iff.1 h2).1 (by rw [← hll]; omega)
    rw [← hll] at hc
    refine hc.mono ?_
    rintro e w' ⟨rfl, n, os, rfl⟩
    have hs := ownsRow_sorted (w := w) (n := n) (os := os) (e := 9) (ts := (xs.map fun x => x.data.toList).mergeSort fun x y => decide (x ≤ y)) (ss := xs.map fun x => x.data.toList) (by rw [List.length_mergeSort]) h1 h2 (by rw [← hll]; exact h3) h4 h5
    refine ⟨rfl, ?_, grownBy_sorted _⟩
    unfold OwnL
    rw [hk, layN_flat, Dk.srt_len]
    rw [← hll] at hs
    unfold Dk.srt
    rw [Dk.mkB_map]
    exact hs
end Go.Proofs.Ytheocdfccdpmbaa
