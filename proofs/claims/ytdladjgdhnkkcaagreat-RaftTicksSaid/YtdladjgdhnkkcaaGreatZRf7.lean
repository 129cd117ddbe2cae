
/-
  Contract: slices.Repeat of one number, one to seven times.
  Conditions: the list holds one number.
-/
import Derived.Test.YtdladjgdhnkkcaaGreatZRf1ToRf2
import Derived.Laws.CopyOwn
import Derived.IntWalk
namespace Go.Proofs.YtdladjgdhnkkcaaGreat
open Go.RowKit
set_option linter.unusedVariables false
set_option linter.unusedSimpArgs false
set_option maxHeartbeats 2000000

set_option maxRecDepth 100000 in
theorem mul64_calls (n : Int) (w : World) (h0 : 1 ≤ n) (h1 : n ≤ 7) : Calls Tryz.prog 99 #[.int .u64 1, .int .u64 n] w fun e w' => e = .returned (.tuple #[.int .u64 0, .int .u64 n]) ∧ w = w' := by
  have hn : n = 1 ∨ n = 2 ∨ n = 3 ∨ n = 4 ∨ n = 5 ∨ n = 6 ∨ n = 7 := by omega
  clear h0 h1
  rcases hn with rfl | rfl | rfl | rfl | rfl | rfl | rfl
  all_goals
    go_enter Tryz.func99, Tryz.ntmps99
    go_wp2_with fail
    go_ret2
    exact ⟨rfl, rfl⟩
theorem mul_calls (n : Int) (w : World) (h0 : 1 ≤ n) (h1 : n ≤ 7) : Calls Tryz.prog 95 #[.int .u64 1, .int .u64 n] w fun e w' => e = .returned (.tuple #[.int .u64 0, .int .u64 n]) ∧ w = w' := by
  have hl := Lib.hid (mul64_calls n w h0 h1)
  go_enter Tryz.func95, Tryz.ntmps95
  go_wp2_with fail
  refine hl.out.mono ?_
  rintro e w' ⟨rfl, rfl⟩
  go_wp2_with fail
  go_ret2
  exact ⟨rfl, rfl⟩

/-- m numbers laid, n in all -/
def laidOf (m n : Nat) (v : Int) : List Value := List.replicate m (.int .i64 v) ++ List.replicate (n - m) (.int .i64 0)
theorem laid_len (m n : Nat) (v : Int) (h : m ≤ n) : (laidOf m n v).length = n := by simp [laidOf]; omega
theorem laid_get (m n : Nat) (v : Int) (j : Nat) (h : j < m) : (laidOf m n v)[j]? = some (.int .i64 v) := by
  unfold laidOf
  rw [List.getElem?_append_left (by simpa using h)]
  simp [h]
theorem laid_more (m n k : Nat) (v : Int) (h : m + k ≤ n) : splice (laidOf m n v) m (List.replicate k (.int .i64 v)) = laidOf (m + k) n v := by
  unfold splice laidOf
  rw [List.take_left' (by simp)]
  have h1 : List.drop (m + (List.replicate k (Value.int IntKind.i64 v)).length) (List.replicate m (Value.int IntKind.i64 v) ++ List.replicate (n - m) (Value.int IntKind.i64 0)) = List.replicate (n - (m + k)) (.int .i64 0) := by
    rw [List.drop_append]
    simp
    omega
  rw [h1, ← List.append_assoc, List.replicate_append_replicate]
theorem laid_all (n : Nat) (v : Int) : laidOf n n v = (layI .i64).flat (List.replicate n v) := by
  rw [flatI]
  simp [laidOf]

theorem made_zero (n : Nat) (v : Int) : madeCells #[.int .i64 0] n = (laidOf 0 n v).toArray := by
  apply Array.ext
  · simp [madeCells, laidOf]
  · intro i h1 h2
    simp [madeCells, laidOf, Nat.mod_one]
theorem make64 (n : Nat) (v : Int) (h : n ≤ 7) (W : World) : (Instr.makeSlice 26 (.int .i64 (n : Int)) (.int .i64 (n : Int))).run Tryz.prog W = .ok (.slice (some ⟨W.heap.size, 0, none⟩) n n) (W.alloc (.cells (laidOf 0 n v).toArray 2)) := by
  obtain ⟨i0, hi0, hz0, hz1, hz2⟩ := info_parts infoL
  have hr := run_make (P := Tryz.prog) W 26 2 i0 (.int .i64 0) Tryz.underlying26 hi0 hz0 .i64 .i64 n n (by omega) (by omega) (by rw [hz2]; omega) (by omega)
  rw [hz1] at hr
  simp only [Int.toNat_natCast, Nat.mul_one] at hr
  rw [← made_zero]
  exact hr
theorem own_laid (w : World) (g n base : Nat) (v : Int) (hg : w.heap[g]? = some (.cells (laidOf n n v).toArray 2 (0, 0))) (hb : base ≤ g) (hm : n ≤ 7) : OwnL (layI .i64) 2 w base (.slice (some ⟨g, 0, none⟩) (List.replicate n v).length n) (List.replicate n v) := by
  refine ⟨by rw [Lay.flat_len], .inr ⟨g, n, _, rfl, hb, hg, by simp, by simp [maxLen]; omega, ?_, ?_⟩⟩
  · rw [List.size_toArray, laid_len n n v (Nat.le_refl _)]; exact (Nat.mul_one n).symm
  · rw [← laid_all]
    exact List.take_of_length_le (by rw [laid_len n n v (Nat.le_refl _)]; simp [layI])
theorem laid_one (v : Value) : ∀ k, ∀ u ∈ List.replicate k (Value.int .i64 (0 : Int)), True := fun _ _ _ => trivial

/-- in the middle of it: m numbers are laid in block g -/
def RInv (g n : Nat) (v : Int) (w : World) (m k : Nat) (W : World) : Prop := m + k = n ∧ 1 ≤ m ∧ Below w.heap.size w W ∧ W.heap[g]? = some (.cells (laidOf m n v).toArray 2 (0, 0))

set_option maxRecDepth 20000 in
theorem repeat_calls (A : Option Addr) (cap n : Nat) (v : Int) (w : World) (hR : Hid (RdL (layI .i64) w A [v])) (h0 : 1 ≤ n) (h1 : n ≤ 7) :
    Calls Tryz.prog 85 #[.slice A 1 cap, .int .i64 n] w (Copied .i64 2 (List.replicate n v) w) := by
  obtain ⟨ab, ao, rfl, ha, hv⟩ := hR.out.int 0 (by simp)
  simp only [Nat.add_zero] at hv
  have k1 : (1 : Int) ≤ (n : Int) := by omega
  have k2 : (n : Int) ≤ 7 := by omega
  have HM := Lib.hid (mul_calls (n : Int) w k1 k2)
  have hmk := make64 n v h1
  have HZ := Lib.hid (Below.heap_alloc w (.cells (laidOf 0 n v).toArray 2))
  have hg0 : Hid ((w.alloc (.cells (laidOf 0 n v).toArray 2)).heap[w.heap.size]? = some (.cells (laidOf 0 n v).toArray 2 (0, 0))) := Lib.hid (heap_alloc_new w _)
  have HV := Lib.hid hv
  have HL0 := Lib.hid (laid_len 0 n v (Nat.zero_le _))
  have HB0 := Lib.hid (bel_new (Below.refl w.heap.size w) (.cells (laidOf 0 n v).toArray 2))
  have HSRC : Hid (∀ j u, (List.replicate 1 (Value.int .i64 v))[j]? = some u → (w.alloc (.cells (laidOf 0 n v).toArray 2)).cell? ((⟨ab, ao, none⟩ : Addr).add j) = some u) := Lib.hid (fun j u hu => by
    have hj : j = 0 := by have := (List.getElem?_eq_some_iff.1 hu).1; simp at this; exact this
    subst hj
    have hu' : u = .int .i64 v := by simpa using hu.symm
    rw [hu', addr_add]
    exact (HB0.out.cell (p := ⟨ab, ao, none⟩) ha).trans HV.out)
  have HMIN : Hid ((List.replicate 1 (Value.int .i64 v)).length = Nat.min 1 n) := Lib.hid (by rw [List.length_replicate]; exact (Nat.min_eq_left h0).symm)
  clear hv
  go_enter Tryz.func85, Tryz.ntmps85
  go_wp2_with fail
  refine HM.out.mono ?_
  rintro e w' ⟨rfl, rfl⟩
  clear HM
  go_wp2_with (first
    | (refine wpList_copy_splice rfl (.tmp 31) (.tmp 32) 26 26 rfl 2 Tryz.underlying26 (by kernel_rfl) (some ⟨w.heap.size, 0, none⟩) (some ⟨ab, ao, none⟩) n n 1 cap rfl rfl w.heap.size 0 (laidOf 0 n v) 2 hg0.out (List.replicate 1 (.int .i64 v)) HMIN.out (fun _ => ⟨rfl, ⟨ab, ao, none⟩, rfl, HSRC.out⟩) (by rw [HL0.out]; simp; omega) (fun u hu => by obtain rfl := List.eq_of_mem_replicate hu; rfl) w.heap.size w HB0.out (Nat.le_refl _) ?_
       intro w2 hg2 hb2
       have HI2 : Hid (RInv w.heap.size n v w 1 (n - 1) w2) := Lib.hid ⟨by omega, Nat.le_refl _, hb2, by have := hg2.out; rw [laid_more 0 n 1 v (by omega)] at this; exact this⟩
       clear hg2 hb2))
  go_loopg [8] n (fun q v8 W => ∃ m k : Nat, v8 = .int .i64 m ∧ k ≤ q ∧ Hid (RInv w.heap.size n v w m k W))
  case atStart => exact ⟨1, n - 1, by simp, by omega, HI2⟩
  case round =>
    obtain ⟨m, k, rfl, hkq, HI⟩ := hrel
    clear HI2
    obtain ⟨i1, i2, i3, i4⟩ := HI.out
    by_cases hlt : m < n
    · have hl : (m : Int) < (n : Int) := by omega
      have hmn : ¬ n = m := by omega
      have hm0 : (0 : Int) ≤ (m : Int) := by omega
      have hml : (m : Int) ≤ (n : Int) := by omega
      have hcn : ((n : Int) - (m : Int)).toNat = n - m := by omega
      have hc1 : ((m : Int)).toNat = m := by omega
      have HG := Lib.hid i4
      have HBB := Lib.hid i3
      have HLM := Lib.hid (laid_len m n v (by omega))
      obtain ⟨q, hq⟩ : ∃ q, q = Nat.min m (n - m) := ⟨_, rfl⟩
      have hq2 : 1 ≤ q ∧ m + q ≤ n := by
        have e : q = min m (n - m) := hq
        omega
      have q1 : (q : Int) ≤ 7 := by omega
      have q2 : (0 : Int) ≤ (q : Int) := by omega
      have HQ := Lib.hid hq
      have HQ2 := Lib.hid hq2
      have HCS : Hid (∀ j u, (List.replicate q (Value.int .i64 v))[j]? = some u → wr.drew.cell? ((⟨w.heap.size, 0, none⟩ : Addr).add j) = some u) := Lib.hid (fun j u hu => by
        have hj : j < q := by have := (List.getElem?_eq_some_iff.1 hu).1; simpa using this
        have hjm : j < m := by have e : q = min m (n - m) := hq; omega
        have hu' : u = .int .i64 v := by simpa [hj] using hu.symm
        rw [hu', addr_add]
        show wr.cell? _ = _
        rw [cell_of_row wr w.heap.size (0 + j) _ _ _ i4, Nat.zero_add]
        simpa using laid_get m n v j hjm)
      have hwq : IntKind.i64.wrap ((m : Int) + (q : Int)) = (m : Int) + (q : Int) := IntWalk.i64_in _ (by omega)
      clear i3 i4 hq hq2
      go_wp2_with fail
      go_region_law (first
        | (refine step_copy_splice rfl (.tmp 41) (.tmp 44) 26 26 rfl 2 Tryz.underlying26 (by kernel_rfl) (some ⟨w.heap.size, m, none⟩) (some ⟨w.heap.size, 0, none⟩) (n - m) (n - m) m n (by simp [Act.eval, Act.put, hmn]) (by simp [Act.eval, Act.put]) w.heap.size m (laidOf m n v) 2 HG.out (List.replicate q (.int .i64 v)) (by rw [List.length_replicate]; exact HQ.out) (fun _ => ⟨rfl, _, rfl, HCS.out⟩) (by rw [HLM.out, List.length_replicate]; exact HQ2.out.2) (fun u hu => by obtain rfl := List.eq_of_mem_replicate hu; rfl) w.heap.size w (bel_drew HBB.out) (Nat.le_refl _) ?_
           intro w3 hg3 hb3
           have hg4 := hg3.out
           rw [laid_more m n q v HQ2.out.2] at hg4
           have HI3 : Hid (RInv w.heap.size n v w (m + q) (k - q) w3) := Lib.hid ⟨by have := HQ2.out; omega, by omega, hb3, hg4⟩
           clear hg4
           rw [List.length_replicate]
           clear hg3 hb3))
      go_wp2_with fail
      go_roundg (gk - 1)
      case rel => exact ⟨m + q, k - q, by go_num, by have := HQ2.out; omega, HI3⟩
      case measure => have := HQ2.out; omega
    · have hl : ¬ (m : Int) < (n : Int) := by omega
      have hmn : m = n := by omega
      subst hmn
      have HG := Lib.hid i4
      have HBB := Lib.hid i3
      clear i3 i4
      go_wp2_with fail
      go_ret
      exact ⟨⟨_, _, by simp, own_laid _ _ _ _ v HG.out (Nat.le_refl _) h1, by simp, by simp [maxLen]; omega⟩, HBB.out⟩
end Go.Proofs.YtdladjgdhnkkcaaGreat
