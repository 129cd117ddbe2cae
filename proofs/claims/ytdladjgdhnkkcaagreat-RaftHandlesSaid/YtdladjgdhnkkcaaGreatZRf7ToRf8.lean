
/-
  2 texts in one.
  Conditions: stated lemma by lemma.
-/
import Derived.Test.YtdladjgdhnkkcaaGreatZRf1ToRf2
import Derived.Laws.CopyOwn
import Derived.IntWalk
import Derived.Test.YtdladjgdhnkkcaaGreatZRf3ToRf5
import Derived.Test.YtdladjgdhnkkcaaGreatZRf6ToRf9
/-
  Contract: slices.Repeat of one number, one to seven times.
  Conditions: the list holds one number.
-/
namespace Go.Proofs.YtdladjgdhnkkcaaGreat
open Go.RowKit
set_option linter.unusedVariables false
set_option linter.unusedSimpArgs false
set_option maxHeartbeats 2000000

set_option maxRecDepth 100000 in
theorem mul64_calls (n : Int) (w : World) (h0 : 1 ≤ n) (h1 : n ≤ 7) : Calls Tryz.prog 99 #[.int .u64 1, .int .u64 n] w fun e w' => e = .returned (.tuple #[.int .u64 0, .int .u64 n]) ∧ w = w' := by
  have hn : n = 1 ∨ n = 2 ∨ n = 3 ∨ n = 4 ∨ n = 5 ∨ n = 6 ∨ n = 7 := by omega
  clear h0 h1
  rcases hn with rfl | rfl | rfl | rfl | rfl | rfl | rfl
  all_goals
    go_enter Tryz.func99, Tryz.ntmps99
    go_wp2_with fail
    go_ret2
    exact ⟨rfl, rfl⟩
theorem mul_calls (n : Int) (w : World) (h0 : 1 ≤ n) (h1 : n ≤ 7) : Calls Tryz.prog 95 #[.int .u64 1, .int .u64 n] w fun e w' => e = .returned (.tuple #[.int .u64 0, .int .u64 n]) ∧ w = w' := by
  have hl := Lib.hid (mul64_calls n w h0 h1)
  go_enter Tryz.func95, Tryz.ntmps95
  go_wp2_with fail
  refine hl.out.mono ?_
  rintro e w' ⟨rfl, rfl⟩
  go_wp2_with fail
  go_ret2
  exact ⟨rfl, rfl⟩

/-- m numbers laid, n in all -/
def laidOf (m n : Nat) (v : Int) : List Value := List.replicate m (.int .i64 v) ++ List.replicate (n - m) (.int .i64 0)
theorem laid_len (m n : Nat) (v : Int) (h : m ≤ n) : (laidOf m n v).length = n := by simp [laidOf]; omega
theorem laid_get (m n : Nat) (v : Int) (j : Nat) (h : j < m) : (laidOf m n v)[j]? = some (.int .i64 v) := by
  unfold laidOf
  rw [List.getElem?_append_left (by simpa using h)]
  simp [h]
theorem laid_more (m n k : Nat) (v : Int) (h : m + k ≤ n) : splice (laidOf m n v) m (List.replicate k (.int .i64 v)) = laidOf (m + k) n v := by
  unfold splice laidOf
  rw [List.take_left' (by simp)]
  have h1 : List.drop (m + (List.replicate k (Value.int IntKind.i64 v)).length) (List.replicate m (Value.int IntKind.i64 v) ++ List.replicate (n - m) (Value.int IntKind.i64 0)) = List.replicate (n - (m + k)) (.int .i64 0) := by
    rw [List.drop_append]
    simp
    omega
  rw [h1, ← List.append_assoc, List.replicate_append_replicate]
theorem laid_all (n : Nat) (v : Int) : laidOf n n v = (layI .i64).flat (List.replicate n v) := by
  rw [flatI]
  simp [laidOf]

theorem made_zero (n : Nat) (v : Int) : madeCells #[.int .i64 0] n = (laidOf 0 n v).toArray := by
  apply Array.ext
  · simp [madeCells, laidOf]
  · intro i h1 h2
    simp [madeCells, laidOf, Nat.mod_one]
theorem make64 (n : Nat) (v : Int) (h : n ≤ 7) (W : World) : (Instr.makeSlice 26 (.int .i64 (n : Int)) (.int .i64 (n : Int))).run Tryz.prog W = .ok (.slice (some ⟨W.heap.size, 0, none⟩) n n) (W.alloc (.cells (laidOf 0 n v).toArray 2)) := by
  obtain ⟨i0, hi0, hz0, hz1, hz2⟩ := info_parts infoL
  have hr := run_make (P := Tryz.prog) W 26 2 i0 (.int .i64 0) Tryz.underlying26 hi0 hz0 .i64 .i64 n n (by omega) (by omega) (by rw [hz2]; omega) (by omega)
  rw [hz1] at hr
  simp only [Int.toNat_natCast, Nat.mul_one] at hr
  rw [← made_zero]
  exact hr
theorem own_laid (w : World) (g n base : Nat) (v : Int) (hg : w.heap[g]? = some (.cells (laidOf n n v).toArray 2 (0, 0))) (hb : base ≤ g) (hm : n ≤ 7) : OwnL (layI .i64) 2 w base (.slice (some ⟨g, 0, none⟩) (List.replicate n v).length n) (List.replicate n v) := by
  refine ⟨by rw [Lay.flat_len], .inr ⟨g, n, _, rfl, hb, hg, by simp, by simp [maxLen]; omega, ?_, ?_⟩⟩
  · rw [List.size_toArray, laid_len n n v (Nat.le_refl _)]; exact (Nat.mul_one n).symm
  · rw [← laid_all]
    exact List.take_of_length_le (by rw [laid_len n n v (Nat.le_refl _)]; simp [layI])
/-- in the middle of it: m numbers are laid in block g -/
def RInv (g n : Nat) (v : Int) (w : World) (m k : Nat) (W : World) : Prop := m + k = n ∧ 1 ≤ m ∧ Below w.heap.size w W ∧ W.heap[g]? = some (.cells (laidOf m n v).toArray 2 (0, 0))

set_option maxRecDepth 20000 in
theorem repeat_calls (A : Option Addr) (cap n : Nat) (v : Int) (w : World) (hR : Hid (RdL (layI .i64) w A [v])) (h0 : 1 ≤ n) (h1 : n ≤ 7) :
    Calls Tryz.prog 85 #[.slice A 1 cap, .int .i64 n] w (Copied .i64 2 (List.replicate n v) w) := by
  obtain ⟨ab, ao, rfl, ha, hv⟩ := hR.out.int 0 (by simp)
  simp only [Nat.add_zero] at hv
  have k1 : (1 : Int) ≤ (n : Int) := by omega
  have k2 : (n : Int) ≤ 7 := by omega
  have HM := Lib.hid (mul_calls (n : Int) w k1 k2)
  have hmk := make64 n v h1
  have HZ := Lib.hid (Below.heap_alloc w (.cells (laidOf 0 n v).toArray 2))
  have hg0 : Hid ((w.alloc (.cells (laidOf 0 n v).toArray 2)).heap[w.heap.size]? = some (.cells (laidOf 0 n v).toArray 2 (0, 0))) := Lib.hid (heap_alloc_new w _)
  have HV := Lib.hid hv
  have HL0 := Lib.hid (laid_len 0 n v (Nat.zero_le _))
  have HB0 := Lib.hid (bel_new (Below.refl w.heap.size w) (.cells (laidOf 0 n v).toArray 2))
  have HSRC : Hid (∀ j u, (List.replicate 1 (Value.int .i64 v))[j]? = some u → (w.alloc (.cells (laidOf 0 n v).toArray 2)).cell? ((⟨ab, ao, none⟩ : Addr).add j) = some u) := Lib.hid (fun j u hu => by
    have hj : j = 0 := by have := (List.getElem?_eq_some_iff.1 hu).1; simp at this; exact this
    subst hj
    have hu' : u = .int .i64 v := by simpa using hu.symm
    rw [hu', addr_add]
    exact (HB0.out.cell (p := ⟨ab, ao, none⟩) ha).trans HV.out)
  have HMIN : Hid ((List.replicate 1 (Value.int .i64 v)).length = Nat.min 1 n) := Lib.hid (by rw [List.length_replicate]; exact (Nat.min_eq_left h0).symm)
  clear hv
  go_enter Tryz.func85, Tryz.ntmps85
  go_wp2_with fail
  refine HM.out.mono ?_
  rintro e w' ⟨rfl, rfl⟩
  clear HM
  go_wp2_with (first
    | (refine wpList_copy_splice rfl (.tmp 31) (.tmp 32) 26 26 rfl 2 Tryz.underlying26 (by kernel_rfl) (some ⟨w.heap.size, 0, none⟩) (some ⟨ab, ao, none⟩) n n 1 cap rfl rfl w.heap.size 0 (laidOf 0 n v) 2 hg0.out (List.replicate 1 (.int .i64 v)) HMIN.out (fun _ => ⟨rfl, ⟨ab, ao, none⟩, rfl, HSRC.out⟩) (by rw [HL0.out]; simp; omega) (fun u hu => by obtain rfl := List.eq_of_mem_replicate hu; rfl) w.heap.size w HB0.out (Nat.le_refl _) ?_
       intro w2 hg2 hb2
       have HI2 : Hid (RInv w.heap.size n v w 1 (n - 1) w2) := Lib.hid ⟨by omega, Nat.le_refl _, hb2, by have := hg2.out; rw [laid_more 0 n 1 v (by omega)] at this; exact this⟩
       clear hg2 hb2))
  go_loopg [8] n (fun q v8 W => ∃ m k : Nat, v8 = .int .i64 m ∧ k ≤ q ∧ Hid (RInv w.heap.size n v w m k W))
  case atStart => exact ⟨1, n - 1, by simp, by omega, HI2⟩
  case round =>
    obtain ⟨m, k, rfl, hkq, HI⟩ := hrel
    clear HI2
    obtain ⟨i1, i2, i3, i4⟩ := HI.out
    by_cases hlt : m < n
    · have hl : (m : Int) < (n : Int) := by omega
      have hmn : ¬ n = m := by omega
      have hm0 : (0 : Int) ≤ (m : Int) := by omega
      have hml : (m : Int) ≤ (n : Int) := by omega
      have hcn : ((n : Int) - (m : Int)).toNat = n - m := by omega
      have hc1 : ((m : Int)).toNat = m := by omega
      have HG := Lib.hid i4
      have HBB := Lib.hid i3
      have HLM := Lib.hid (laid_len m n v (by omega))
      obtain ⟨q, hq⟩ : ∃ q, q = Nat.min m (n - m) := ⟨_, rfl⟩
      have hq2 : 1 ≤ q ∧ m + q ≤ n := by
        have e : q = min m (n - m) := hq
        omega
      have q1 : (q : Int) ≤ 7 := by omega
      have q2 : (0 : Int) ≤ (q : Int) := by omega
      have HQ := Lib.hid hq
      have HQ2 := Lib.hid hq2
      have HCS : Hid (∀ j u, (List.replicate q (Value.int .i64 v))[j]? = some u → wr.drew.cell? ((⟨w.heap.size, 0, none⟩ : Addr).add j) = some u) := Lib.hid (fun j u hu => by
        have hj : j < q := by have := (List.getElem?_eq_some_iff.1 hu).1; simpa using this
        have hjm : j < m := by have e : q = min m (n - m) := hq; omega
        have hu' : u = .int .i64 v := by simpa [hj] using hu.symm
        rw [hu', addr_add]
        show wr.cell? _ = _
        rw [cell_of_row wr w.heap.size (0 + j) _ _ _ i4, Nat.zero_add]
        simpa using laid_get m n v j hjm)
      have hwq : IntKind.i64.wrap ((m : Int) + (q : Int)) = (m : Int) + (q : Int) := IntWalk.i64_in _ (by omega)
      clear i3 i4 hq hq2
      go_wp2_with fail
      go_region_law (first
        | (refine step_copy_splice rfl (.tmp 41) (.tmp 44) 26 26 rfl 2 Tryz.underlying26 (by kernel_rfl) (some ⟨w.heap.size, m, none⟩) (some ⟨w.heap.size, 0, none⟩) (n - m) (n - m) m n (by simp [Act.eval, Act.put, hmn]) (by simp [Act.eval, Act.put]) w.heap.size m (laidOf m n v) 2 HG.out (List.replicate q (.int .i64 v)) (by rw [List.length_replicate]; exact HQ.out) (fun _ => ⟨rfl, _, rfl, HCS.out⟩) (by rw [HLM.out, List.length_replicate]; exact HQ2.out.2) (fun u hu => by obtain rfl := List.eq_of_mem_replicate hu; rfl) w.heap.size w (bel_drew HBB.out) (Nat.le_refl _) ?_
           intro w3 hg3 hb3
           have hg4 := hg3.out
           rw [laid_more m n q v HQ2.out.2] at hg4
           have HI3 : Hid (RInv w.heap.size n v w (m + q) (k - q) w3) := Lib.hid ⟨by have := HQ2.out; omega, by omega, hb3, hg4⟩
           clear hg4
           rw [List.length_replicate]
           clear hg3 hb3))
      go_wp2_with fail
      go_roundg (gk - 1)
      case rel => exact ⟨m + q, k - q, by go_num, by have := HQ2.out; omega, HI3⟩
      case measure => have := HQ2.out; omega
    · have hl : ¬ (m : Int) < (n : Int) := by omega
      have hmn : m = n := by omega
      subst hmn
      have HG := Lib.hid i4
      have HBB := Lib.hid i3
      clear i3 i4
      go_wp2_with fail
      go_ret
      exact ⟨⟨_, _, by simp, own_laid _ _ _ _ v HG.out (Nat.le_refl _) h1, by simp, by simp [maxLen]; omega⟩, HBB.out⟩
end Go.Proofs.YtdladjgdhnkkcaaGreat

/-
  Contract: a leader begins.
  Conditions: the node lies in memory, its log is right.
-/
namespace Go.Proofs.YtdladjgdhnkkcaaGreat
open Go.RowKit
set_option linter.unusedVariables false
set_option linter.unusedSimpArgs false
set_option maxHeartbeats 4000000

section
variable {base : Nat} {col : Nat → Nat} {r : Nod} {x : NdX} {L : List MsgV} {w w' : World}
theorem Rest.next_new (h : Rest base col r x L w) (hb : Below w.heap.size w w') {A : Option Addr} {c : Nat} {vs : List Int} (ho : OwnL (layI .i64) 2 w' w.heap.size (.slice A vs.length c) vs) :
    Rest base (Go.Proofs.YtdladjgdhnkkcaaGreat.recol col w.heap.size 3) { r with next := vs } { x with nA := A, nc := c } L w' := by
  have k := (h.recol 3).bel hb
  exact { k with next := ho.low h.bs, nextc := fun b hb => recol_new (ho.lt b hb).1 }
theorem Rest.mtch_new (h : Rest base col r x L w) (hb : Below w.heap.size w w') {A : Option Addr} {c : Nat} {vs : List Int} (ho : OwnL (layI .i64) 2 w' w.heap.size (.slice A vs.length c) vs) :
    Rest base (Go.Proofs.YtdladjgdhnkkcaaGreat.recol col w.heap.size 4) { r with mtch := vs } { x with mA := A, mc := c } L w' := by
  have k := (h.recol 4).bel hb
  exact { k with mtch := ho.low h.bs, mtchc := fun b hb => recol_new (ho.lt b hb).1 }
end
section
variable {t : TypeId} {base g : Nat} {col : Nat → Nat} {r : Nod} {x : NdX} {L : List MsgV} {w w' : World}
theorem Nd.next_new (h : Nd t base g col r x L w) (hb : Below w.heap.size w w') {A : Option Addr} {c : Nat} {vs : List Int} (ho : OwnL (layI .i64) 2 w' w.heap.size (.slice A vs.length c) vs) :
    Nd t base g (Go.Proofs.YtdladjgdhnkkcaaGreat.recol col w.heap.size 3) { r with next := vs } { x with nA := A, nc := c } L (w'.setCell ⟨g, 14, none⟩ (.slice A vs.length c)) := by
  have hc : Go.Proofs.YtdladjgdhnkkcaaGreat.recol col w.heap.size 3 g = 1 := by rw [recol_old h.blk.lt]; exact h.gc
  exact ⟨h.ge, hc, (h.blk.bel hb).set 14 _, (h.rest.next_new hb ho).set1 hc _⟩
theorem Nd.mtch_new (h : Nd t base g col r x L w) (hb : Below w.heap.size w w') {A : Option Addr} {c : Nat} {vs : List Int} (ho : OwnL (layI .i64) 2 w' w.heap.size (.slice A vs.length c) vs) :
    Nd t base g (Go.Proofs.YtdladjgdhnkkcaaGreat.recol col w.heap.size 4) { r with mtch := vs } { x with mA := A, mc := c } L (w'.setCell ⟨g, 15, none⟩ (.slice A vs.length c)) := by
  have hc : Go.Proofs.YtdladjgdhnkkcaaGreat.recol col w.heap.size 4 g = 1 := by rw [recol_old h.blk.lt]; exact h.gc
  exact ⟨h.ge, hc, (h.blk.bel hb).set 15 _, (h.rest.mtch_new hb ho).set1 hc _⟩
theorem Nd.log_new (h : Nd t base g col r x L w) (hb : Below w.heap.size w w') {A : Option Addr} {c : Nat} {es : List En} (b bt : Int) (hO : OwnE w' w.heap.size (.slice A es.length c) es) :
    Nd t base g (Go.Proofs.YtdladjgdhnkkcaaGreat.recol col w.heap.size 0) { r with b := b, bt := bt, es := es } { x with eA := A, ec := c } L (((w'.setCell ⟨g, 6, none⟩ (.int .i64 b)).setCell ⟨g, 7, none⟩ (.int .i64 bt)).setCell ⟨g, 8, none⟩ (.slice A es.length c)) := by
  have hcg : Go.Proofs.YtdladjgdhnkkcaaGreat.recol col w.heap.size 0 g = 1 := by rw [recol_old h.blk.lt]; exact h.gc
  exact ⟨h.ge, hcg, (((h.blk.bel hb).set 6 _).set 7 _).set 8 _, (((h.rest.log hb b bt hO).set1 hcg _).set1 hcg _).set1 hcg _⟩
end
/-- a log made, or none: one form -/
theorem ResT.one {base : Nat} {b bt : Int} {o : Option (List En)} {v : Value} {w : World} (h : ResT base b bt o v w) :
    ∃ b' bt' A n c ok, v = .tuple #[trV b' bt' A n c, .bool ok] ∧ Hid (ok = o.isSome ∧ ∀ es, o = some es → b' = b ∧ bt' = bt ∧ n = es.length ∧ OwnE w base (.slice A n c) es) := by
  cases o with
  | none => exact ⟨0, 0, none, 0, 0, false, h, Lib.hid ⟨rfl, fun es e => by cases e⟩⟩
  | some out =>
    obtain ⟨A, cap, e, h1⟩ := h
    exact ⟨b, bt, A, out.length, cap, true, e, Lib.hid ⟨rfl, fun es e => by cases e; exact ⟨rfl, rfl, rfl, h1⟩⟩⟩

/-- the node is as r tells, with new lists, and these messages are sent -/
def Led (t : TypeId) (base g : Nat) (r : Nod) (x : NdX) (L : List MsgV) (Ms : List Msg) (w : World) (e : Ending) (w' : World) : Prop :=
  e = .returned (.tuple #[]) ∧ (∃ col x' LV, x'.cA = x.cA ∧ x'.cc = x.cc ∧ LV.map (·.m) = Ms ∧ Nd t base g col r x' (L ++ LV) w') ∧ Below base w w'

/-- what own, agree, and the messages need -/
structure Fit2 (r : Nod) : Prop where
  c0 : 0 < r.conf.length
  c7 : r.conf.length ≤ 7
  id : r.id ∈ r.conf
  next : r.next.length = r.conf.length
  mtch : r.mtch.length = r.conf.length
  b0 : 0 ≤ r.b
  len : r.es.length ≤ 4096
  l0 : 0 ≤ Rf.lastN r
  l1 : Rf.lastN r ≤ 1099511627776
theorem Fit2.own {r : Nod} (h : Fit2 r) : Fit2 (Rf.own r) := ⟨h.c0, h.c7, h.id, by simpa [Rf.own] using h.next, by simpa [Rf.own] using h.mtch, h.b0, h.len, h.l0, h.l1⟩
theorem Fit2.agree {r : Nod} (h : Fit2 r) : Fit2 (Rf.agree r) := by
  unfold Rf.agree
  split
  · exact ⟨h.c0, h.c7, h.id, h.next, h.mtch, h.b0, h.len, h.l0, h.l1⟩
  · exact h
theorem agree_next (r : Nod) : (Rf.agree r).next = r.next ∧ (Rf.agree r).conf = r.conf := by unfold Rf.agree; split <;> exact ⟨rfl, rfl⟩

theorem lead_fit {r : Nod} (hB : Rf.Base r) : Fit2 (Rf.grow (Rf.lead0 r) ByteArray.empty) ∧ (∀ i, i < (Rf.lead r).conf.length → (Rf.lead r).next.getD i 0 ≤ 9223372036854775807) := by
  have hrim := Tr.chk_rim hB.trail
  have hca := Qm.chk_asc hB.conf
  have hln : Rf.lastN r = r.b + r.es.length := by unfold Rf.lastN; exact Rf.lastN_eq hB.trail
  obtain ⟨eg, heg, hg1, hg2, hg3, _⟩ := Rf.grow_eq (r := Rf.lead0 r) { hB with leader := .inr hB.id, left0 := (show (0 : Int) ≤ 2 by decide), left1 := (show (2 : Int) ≤ 100 by decide) } ByteArray.empty
  have hrim2 := Tr.chk_rim hg1
  have he2 := Rf.lastN_eq hg1
  change Tr.lastN r.b r.bt eg = r.b + eg.length at he2
  change 0 ≤ r.b ∧ r.b ≤ _ ∧ 0 ≤ r.bt ∧ r.bt ≤ _ ∧ (0 < r.b ∨ r.bt = 0) ∧ eg.length ≤ 4096 ∧ r.b + (eg.length : Int) ≤ _ at hrim2
  have hfit : Fit2 (Rf.grow (Rf.lead0 r) ByteArray.empty) := by
    rw [heg]
    refine ⟨hca.2.1, hca.2.2, hB.id, by simp [Rf.lead0], by simp [Rf.lead0], hrim.1, hrim2.2.2.2.2.2.1, ?_, ?_⟩
    · show 0 ≤ Tr.lastN r.b r.bt eg
      rw [he2]; omega
    · show Tr.lastN r.b r.bt eg ≤ _
      rw [he2]; exact hrim2.2.2.2.2.2.2
  refine ⟨hfit, fun i hi => ?_⟩
  unfold Rf.lead at hi ⊢
  rw [(agree_next _).1]
  rw [(agree_next _).2] at hi
  show (List.set (Rf.grow (Rf.lead0 r) ByteArray.empty).next _ _).getD i 0 ≤ _
  rw [Rf.set_get _ _ _ _ (by rw [hfit.next]; exact Rf.idx_lt hfit.id)]
  have := hfit.l1
  split
  · omega
  · rw [heg]
    show (List.replicate r.conf.length (Rf.lastN r + 1)).getD i 0 ≤ _
    rw [List.getD_eq_getElem?_getD, List.getElem?_replicate]
    split
    · simp only [Option.getD_some]; omega
    · simp

theorem laid_zero (n : Nat) : laidOf n n 0 = laidOf 0 n 0 := by simp [laidOf]
set_option maxRecDepth 20000 in
theorem lead_calls {base g : Nat} {col : Nat → Nat} {r : Nod} {x : NdX} {L : List MsgV} {w : World} (H : Hid (Nd 53 base g col r x L w)) (hL : L.length ≤ 900) (hB : Hid (Rf.Base r)) :
    Calls Tryz.prog 59 #[.pointer (some ⟨g, 0, none⟩)] w (Led 53 base g (Rf.lead r) x L (Rf.pushAll (Rf.lead r)) w) := by
  have hrim := Tr.chk_rim hB.out.trail
  have hca := Qm.chk_asc hB.out.conf
  have hln : Rf.lastN r = r.b + r.es.length := by unfold Rf.lastN; exact Rf.lastN_eq hB.out.trail
  have hl01 : 0 ≤ Rf.lastN r ∧ Rf.lastN r ≤ 1099511627776 := by rw [hln]; omega
  obtain ⟨cb, co, hcA, hcl, _⟩ := H.out.conf_at 0 hca.2.1
  obtain ⟨hfit, hnx⟩ := lead_fit hB.out
  have HF := Lib.hid hfit
  obtain ⟨q, hq⟩ : ∃ q, q = Rf.lead r := ⟨_, rfl⟩
  rw [← hq] at hnx ⊢
  have HX := Lib.hid hnx
  have HQ := Lib.hid hq
  unfold Rf.lead at HQ
  obtain ⟨o, ho⟩ : ∃ o, o = Rf.app r ByteArray.empty := ⟨_, rfl⟩
  have HO := Lib.hid ho
  have hn1 : 1 ≤ r.conf.length := hca.2.1
  have hn7 : r.conf.length ≤ 7 := hca.2.2
  have hlen : r.es.length ≤ 4096 := hrim.2.2.2.2.2.1
  have HB2 := Lib.hid hB.out.trail
  clear hq ho hln hrim hca hfit hnx
  obtain ⟨id, conf, term, vote, role, leader, b, bt, es, snap, commit, left, wait, votes, next, mtch⟩ := r
  obtain ⟨cA, cc, eA, ec, vA, vc, nA, nc, mA, mc, oA, oc⟩ := x
  simp only at hcA hn1 hn7 hlen
  subst hcA
  have hC := H.out.blk.cells
  dsimp only [nodeC] at hC
  have hgl := H.out.blk.lt
  have hgf := H.out.blk.free
  -- the world behind the first four stores
  have N1 : Hid (Nd 53 base g col ⟨id, conf, term, vote, 2, id, b, bt, es, snap, commit, 2, wait, [], next, mtch⟩ ⟨some ⟨cb, co, none⟩, cc, eA, ec, none, 0, nA, nc, mA, mc, oA, oc⟩ L ((((w.setCell ⟨g, 4, none⟩ (.int .i64 2)).setCell ⟨g, 5, none⟩ (.int .i64 id)).setCell ⟨g, 11, none⟩ (.int .i64 2)).setCell ⟨g, 13, none⟩ (.slice none 0 0))) :=
    Lib.hid ⟨H.out.ge, H.out.gc, (((H.out.blk.set 4 _).set 5 _).set 11 _).set 13 _, ((((H.out.rest.set1 (p := ⟨g, 4, none⟩) H.out.gc (.int .i64 2)).set1 (p := ⟨g, 5, none⟩) H.out.gc (.int .i64 id)).set1 (p := ⟨g, 11, none⟩) H.out.gc (.int .i64 2)).set1 (p := ⟨g, 13, none⟩) H.out.gc (.slice none 0 0)).votes0.plain _ rfl rfl rfl rfl rfl⟩
  have HB1 := Lib.hid (((((Below.refl base w).setCell (p := ⟨g, 4, none⟩) H.out.ge (.int .i64 2)).setCell (p := ⟨g, 5, none⟩) H.out.ge (.int .i64 id)).setCell (p := ⟨g, 11, none⟩) H.out.ge (.int .i64 2)).setCell (p := ⟨g, 13, none⟩) H.out.ge (.slice none 0 0))
  have hlnv : Rf.lastN (⟨id, conf, term, vote, 2, id, b, bt, es, snap, commit, 2, wait, [], next, mtch⟩ : Nod) = Rf.lastN (⟨id, conf, term, vote, role, leader, b, bt, es, snap, commit, left, wait, votes, next, mtch⟩ : Nod) := rfl
  have HLC := Lib.hid (fun W (h : Hid (Nd 53 base g col ⟨id, conf, term, vote, 2, id, b, bt, es, snap, commit, 2, wait, [], next, mtch⟩ ⟨some ⟨cb, co, none⟩, cc, eA, ec, none, 0, nA, nc, mA, mc, oA, oc⟩ L W)) => nlast_calls h hlen)
  rw [hlnv] at HLC
  generalize hlg : Rf.lastN (⟨id, conf, term, vote, role, leader, b, bt, es, snap, commit, left, wait, votes, next, mtch⟩ : Nod) = ln at *
  have HLG := Lib.hid hlg
  have hw1 : IntKind.i64.wrap (ln + 1) = ln + 1 := IntWalk.i64_in _ (by omega)
  have hk7 : (conf.length : Int) ≤ 7 := by omega
  have HG9 : Hid (Rf.grow (Rf.lead0 ⟨id, conf, term, vote, role, leader, b, bt, es, snap, commit, left, wait, votes, next, mtch⟩) ByteArray.empty = ⟨id, conf, term, vote, 2, id, b, bt, o.getD es, snap, commit, 2, wait, [], List.replicate conf.length (ln + 1), List.replicate conf.length 0⟩) := Lib.hid (by
    rw [← HLG.out]
    unfold Rf.grow
    rw [show Rf.app (Rf.lead0 ⟨id, conf, term, vote, role, leader, b, bt, es, snap, commit, left, wait, votes, next, mtch⟩) ByteArray.empty = o from HO.out.symm]
    rfl)
  rw [HG9.out] at HF HQ
  clear hlg hlnv hl01
  go_enter Tryz.func59, Tryz.ntmps59
  go_wp2_with fail
  generalize (((w.setCell ⟨g, 4, none⟩ (.int .i64 2)).setCell ⟨g, 5, none⟩ (.int .i64 id)).setCell ⟨g, 11, none⟩ (.int .i64 2)).setCell ⟨g, 13, none⟩ (.slice none 0 0) = w1 at *
  clear hC hgl hgf
  have c1 : w1.cell? ⟨g, 1, none⟩ = some (.slice (some ⟨cb, co, none⟩) conf.length cc) := N1.out.blk.cells 1
  go_region_held3 (fun W => W.cell? ⟨g, 1, none⟩ = some (.slice (some ⟨cb, co, none⟩) conf.length cc))
    (first | exact c1 | exact K2.out | exact K3.out | exact K4.out | exact K5.out.blk.cells 1)
    (first
      | (go_at_call 60
         refine (HLC.out w1.drew (Lib.hid (N1.out.bel (bel_drew (Below.refl _ _))))).mono ?_
         rintro e w2 ⟨rfl, hb2⟩
         have N2 := Lib.hid ((N1.out.bel (bel_drew (Below.refl _ _))).bel hb2)
         have HB2 := Lib.hid (bel_tr (bel_drew (Below.refl w1.heap.size w1)) hb2)
         have N3 := Lib.hid (N2.out.bel (bel_new (Below.refl _ _) (.cells #[.int .i64 (ln + 1)] 2)))
         have HB3 := Lib.hid (bel_new HB2.out (.cells #[.int .i64 (ln + 1)] 2))
         have K2 := Lib.hid (N2.out.blk.cells 1)
         have K3 := Lib.hid (N3.out.blk.cells 1)
         have HRD := Lib.hid (rdL_lit (L := layI .i64) w2 2 [ln + 1] (by simp [maxLen]) #[.int .i64 (ln + 1)] rfl)
         clear hb2)
      | (go_at_call 85
         refine (repeat_calls (some ⟨w2.heap.size, 0, none⟩) 1 conf.length (ln + 1) (w2.alloc (.cells #[.int .i64 (ln + 1)] 2)) HRD hn1 hn7).mono ?_
         rintro e w4 ⟨⟨A4, c4, rfl, ho4, _, _⟩, hb4⟩
         have N4 := Lib.hid (N3.out.bel hb4)
         have HB4 := Lib.hid (bel_tr HB3.out hb4)
         have K4 := Lib.hid (N4.out.blk.cells 1)
         have k5 := N3.out.next_new hb4 ho4
         have hf4 := N4.out.blk.free 14
         have hx4 := N4.out.blk.cells 14
         rw [List.length_replicate] at *
         have K5 := Lib.hid k5
         clear hb4 ho4 k5))
  have HB5 := Lib.hid (((bel_base HB4.out N1.out.rest.bs).setCell (p := ⟨g, 14, none⟩) N1.out.ge (.slice A4 conf.length c4)))
  generalize w4.setCell ⟨g, 14, none⟩ (.slice A4 conf.length c4) = w5 at *
  have hmk := make64 conf.length 0 hn7
  have c1 : w5.cell? ⟨g, 1, none⟩ = some (.slice (some ⟨cb, co, none⟩) conf.length cc) := K5.out.blk.cells 1
  have c15 : w5.cell? ⟨g, 15, none⟩ = some (.slice mA mtch.length mc) := K5.out.blk.cells 15
  have f15 := K5.out.blk.free
  have hg5 := K5.out.blk.lt
  have ho6 := own_laid (w5.alloc (.cells (laidOf 0 conf.length 0).toArray 2)) w5.heap.size conf.length w5.heap.size 0 (by rw [laid_zero]; exact heap_alloc_new w5 _) (Nat.le_refl _) hn7
  have k6 := K5.out.mtch_new (bel_new (Below.refl _ _) _) ho6
  have hb6 := (((Below.refl base w5).alloc K5.out.rest.bs (.cells (laidOf 0 conf.length 0).toArray 2)).setCell (p := ⟨g, 15, none⟩) N1.out.ge (.slice (some ⟨w5.heap.size, 0, none⟩) conf.length conf.length))
  rw [List.length_replicate, World.setCell_alloc_past _ g 15 _ hg5] at k6
  rw [World.setCell_alloc_past _ g 15 _ hg5] at hb6
  have K6 := Lib.hid k6
  have HB6 := Lib.hid hb6
  clear k6 ho6 hb6
  go_wp2_with fail
  generalize (w5.setCell ⟨g, 15, none⟩ (.slice (some ⟨w5.heap.size, 0, none⟩) conf.length conf.length)).alloc (.cells (laidOf 0 conf.length 0).toArray 2) = w6 at *
  clear hmk c1 c15 f15 hg5
  have c2 : w6.cell? ⟨g, 2, none⟩ = some (.int .i64 term) := K6.out.blk.cells 2
  have c6 : w6.cell? ⟨g, 6, none⟩ = some (.int .i64 b) := K6.out.blk.cells 6
  have c7 : w6.cell? ⟨g, 7, none⟩ = some (.int .i64 bt) := K6.out.blk.cells 7
  have c8 : w6.cell? ⟨g, 8, none⟩ = some (.slice eA es.length ec) := K6.out.blk.cells 8
  have HAP : Hid (∀ W, RdE W eA es → Calls Tryz.prog 86 #[trV b bt eA es.length ec, .agg #[.int .i64 term, .string ByteArray.empty]] W fun e w' => (∃ v, e = .returned v ∧ ResT W.heap.size b bt o v w') ∧ Below W.heap.size W w') := Lib.hid (fun W hR => by
    rw [show o = (if Tr.chk b bt es = true then Tr.with_ b bt es es.length [(term, ByteArray.empty)] else none) from HO.out]
    exact append_calls b bt term ByteArray.empty eA ec es W hR (by omega) K6.out.rest.es.le)
  have HNE : Hid (g ≠ w6.heap.size) := Lib.hid (by have := K6.out.blk.lt; omega)
  have KA := Lib.hid (K6.out.bel (bel_drew (bel_new (Below.refl w6.heap.size w6) (.cells #[.int .i64 0, .int .i64 0, .slice none 0 0] 25))))
  have KKA := Lib.hid (And.intro (KA.out.blk.cells 2) (And.intro (KA.out.blk.cells 6) (And.intro (KA.out.blk.cells 7) (KA.out.blk.cells 8))))
  go_region_held3 (fun W => W.cell? ⟨g, 2, none⟩ = some (.int .i64 term) ∧ W.cell? ⟨g, 6, none⟩ = some (.int .i64 b) ∧ W.cell? ⟨g, 7, none⟩ = some (.int .i64 bt) ∧ W.cell? ⟨g, 8, none⟩ = some (.slice eA es.length ec))
    (first | exact ⟨c2, c6, c7, c8⟩ | exact KK7.out | exact KKA.out | exact ⟨(N7.out.bel (bel_new (Below.refl _ _) _)).blk.cells 2, (N7.out.bel (bel_new (Below.refl _ _) _)).blk.cells 6, (N7.out.bel (bel_new (Below.refl _ _) _)).blk.cells 7, (N7.out.bel (bel_new (Below.refl _ _) _)).blk.cells 8⟩ | exact ⟨(((N7.out.blk.far HNE.out _).far HNE.out _).far HNE.out _).cells 2, (((N7.out.blk.far HNE.out _).far HNE.out _).far HNE.out _).cells 6, (((N7.out.blk.far HNE.out _).far HNE.out _).far HNE.out _).cells 7, (((N7.out.blk.far HNE.out _).far HNE.out _).far HNE.out _).cells 8⟩)
    (first
      | (go_at_call 86
         refine (HAP.out w6.drew K6.out.rest.es.rd).mono ?_
         rintro e w7 ⟨⟨v, rfl, hv⟩, hb7⟩
         obtain ⟨tb, tbt, tA, tn, tc, ok, rfl, HOK⟩ := hv.one
         have N7 := Lib.hid ((K6.out.bel (bel_drew (Below.refl _ _))).bel hb7)
         have KK7 := Lib.hid (And.intro (N7.out.blk.cells 2) (And.intro (N7.out.blk.cells 6) (And.intro (N7.out.blk.cells 7) (N7.out.blk.cells 8))))
         have HB7 := Lib.hid (bel_tr (bel_drew (Below.refl w6.heap.size w6)) hb7)
         clear hv hb7)
      | (go_at_call 86
         refine (HAP.out ((w6.alloc (.cells #[.int .i64 0, .int .i64 0, .slice none 0 0] 25)).drew) KA.out.rest.es.rd).mono ?_
         rintro e w7 ⟨⟨v, rfl, hv⟩, hb7⟩
         obtain ⟨tb, tbt, tA, tn, tc, ok, rfl, HOK⟩ := hv.one
         have N7 := Lib.hid (KA.out.bel hb7)
         have HB7 := Lib.hid (bel_tr (bel_drew (bel_new (Below.refl w6.heap.size w6) (.cells #[.int .i64 0, .int .i64 0, .slice none 0 0] 25))) hb7)
         have KK7 := Lib.hid (And.intro (N7.out.blk.cells 2) (And.intro (N7.out.blk.cells 6) (And.intro (N7.out.blk.cells 7) (N7.out.blk.cells 8))))
         have HZ7 := Lib.hid (((Blk.new w6 25 #[.int .i64 0, .int .i64 0, .slice none 0 0]).drewN 1).bel hb7)
         have z7 := HZ7.out.free
         have y7 := HZ7.out.cells
         clear hv hb7))
  · have HZ8 := Lib.hid (Blk.new w7 25 #[.int .i64 tb, .int .i64 tbt, .slice tA tn tc])
    have N8 := Lib.hid (N7.out.bel (bel_new (Below.refl _ _) (.cells #[.int .i64 tb, .int .i64 tbt, .slice tA tn tc] 25)))
    have HB86 := Lib.hid (bel_new HB7.out (.cells #[.int .i64 tb, .int .i64 tbt, .slice tA tn tc] 25))
    have HR8 : Hid (∀ es', o = some es' → tb = b ∧ tbt = bt ∧ tn = es'.length ∧ OwnE (w7.alloc (.cells #[.int .i64 tb, .int .i64 tbt, .slice tA tn tc] 25)) w6.heap.size (.slice tA tn tc) es') := Lib.hid (fun es' h => by
      obtain ⟨h1, h2, h3, h4⟩ := HOK.out.2 es' h
      exact ⟨h1, h2, h3, h4.kept (bel_new (Below.refl _ _) _)⟩)
    have HB8 := Lib.hid (((HB1.out.trans HB5.out).trans HB6.out).trans (bel_base HB86.out K6.out.rest.bs))
    generalize hW8 : w7.alloc (.cells #[.int .i64 tb, .int .i64 tbt, .slice tA tn tc] 25) = W8 at *
    clear hW8
    have d8 := N8.out.blk.lt
    have e8 := N8.out.blk.free
    have t8 := HZ8.out.cells
    have cc8 : ∀ i, W8.cell? ⟨g, i, none⟩ = (nodeC (⟨id, conf, term, vote, 2, id, b, bt, es, snap, commit, 2, wait, [], List.replicate conf.length (ln + 1), List.replicate conf.length 0⟩) (⟨some ⟨cb, co, none⟩, cc, eA, ec, none, 0, A4, c4, some ⟨w5.heap.size, 0, none⟩, conf.length, oA, oc⟩) L.length)[i]? := N8.out.blk.cells
    dsimp only [nodeC] at cc8
    have hend : ∀ (x9 : NdX) (W9 : World) (e : Ending) (W : World), x9.cA = some ⟨cb, co, none⟩ → x9.cc = cc → Below base w W9 → Said 53 base g q x9 L (Rf.pushAll q) W9 e W → Led 53 base g q ⟨some ⟨cb, co, none⟩, cc, eA, ec, vA, vc, nA, nc, mA, mc, oA, oc⟩ L (Rf.pushAll q) w e W := fun x9 W9 e W h1 h2 h3 ⟨h4, ⟨col', oA', oc', LV, h5, h6⟩, h7⟩ => ⟨h4, ⟨col', { x9 with oA := oA', oc := oc' }, LV, h1, h2, h5, h6⟩, h3.trans h7⟩
    have HEND := Lib.hid hend
    clear hend
    cases ok with
    | false =>
      have hon : o = none := by have := HOK.out.1; cases o with | none => rfl | some _ => cases this
      rw [hon] at HF HQ
      simp only [Option.getD_none] at HF HQ
      clear hon
      go_wp2_with fail
      refine (own_calls N8 (Lib.hid HF.out.id) hn7 HF.out.next HF.out.mtch hlen HF.out.l0 HF.out.l1).mono ?_
      rintro e w9 ⟨rfl, ⟨col9, hN9⟩, hb9⟩
      have N9 := Lib.hid hN9
      have HB9 := Lib.hid hb9
      have HF9 := Lib.hid HF.out.own
      clear hN9 hb9
      go_wp2_with fail
      refine (agree_calls N9 HF9.out.c0 HF9.out.c7 HF9.out.mtch HF9.out.len).mono ?_
      rintro e w10 ⟨rfl, ⟨col10, hN10⟩, hb10⟩
      have HF10 := Lib.hid HF9.out.agree
      rw [← HQ.out] at hN10 HF10
      have N10 := Lib.hid hN10
      have HB10 := Lib.hid hb10
      clear hN10 hb10
      go_wp2_with fail
      refine (pushAll_calls N10 hL HF10.out.c0 HF10.out.c7 HF10.out.next HF10.out.b0 HF10.out.len HX).mono ?_
      intro e w11 hs
      have HS := Lib.hid hs
      obtain ⟨rfl, _, _⟩ := hs
      go_wp2_with fail
      go_end0
      exact HEND.out _ _ _ _ rfl rfl (HB8.out.trans (HB9.out.trans HB10.out)) HS.out
    | true =>
      obtain ⟨es', hoe⟩ : ∃ es', o = some es' := by have := HOK.out.1; cases o with | none => cases this | some e => exact ⟨e, rfl⟩
      obtain ⟨e1, e2, rfl, hOt⟩ := HR8.out es' hoe
      obtain rfl := e1.symm
      obtain rfl := e2.symm
      rw [hoe] at HF HQ
      simp only [Option.getD_some] at HF HQ
      have k9 := K6.out.log_new HB86.out b bt hOt
      have K9 := Lib.hid k9
      have HB9 := Lib.hid (((HB8.out.setCell (p := ⟨g, 6, none⟩) N1.out.ge (.int .i64 b)).setCell (p := ⟨g, 7, none⟩) N1.out.ge (.int .i64 bt)).setCell (p := ⟨g, 8, none⟩) N1.out.ge (.slice tA es'.length tc))
      clear hoe hOt k9
      go_wp2_with fail
      refine (own_calls K9 (Lib.hid HF.out.id) hn7 HF.out.next HF.out.mtch HF.out.len HF.out.l0 HF.out.l1).mono ?_
      rintro e w9 ⟨rfl, ⟨col9, hN9⟩, hb9⟩
      have N9 := Lib.hid hN9
      have HBA := Lib.hid hb9
      have HF9 := Lib.hid HF.out.own
      clear hN9 hb9
      go_wp2_with fail
      refine (agree_calls N9 HF9.out.c0 HF9.out.c7 HF9.out.mtch HF9.out.len).mono ?_
      rintro e w10 ⟨rfl, ⟨col10, hN10⟩, hb10⟩
      have HF10 := Lib.hid HF9.out.agree
      rw [← HQ.out] at hN10 HF10
      have N10 := Lib.hid hN10
      have HB10 := Lib.hid hb10
      clear hN10 hb10
      go_wp2_with fail
      refine (pushAll_calls N10 hL HF10.out.c0 HF10.out.c7 HF10.out.next HF10.out.b0 HF10.out.len HX).mono ?_
      intro e w11 hs
      have HS := Lib.hid hs
      obtain ⟨rfl, _, _⟩ := hs
      go_wp2_with fail
      go_end0
      exact HEND.out _ _ _ _ rfl rfl (HB9.out.trans (HBA.out.trans HB10.out)) HS.out
  · have HZ8 := Lib.hid (((HZ7.out.set 0 (.int .i64 tb)).set 1 (.int .i64 tbt)).set 2 (.slice tA tn tc))
    have HB86 := Lib.hid (bel_set (bel_set (bel_set HB7.out (g := w6.heap.size) (Nat.le_refl _) 0 (.int .i64 tb)) (g := w6.heap.size) (Nat.le_refl _) 1 (.int .i64 tbt)) (g := w6.heap.size) (Nat.le_refl _) 2 (.slice tA tn tc))
    have N8 := Lib.hid (K6.out.bel HB86.out)
    have HR8 : Hid (∀ es', o = some es' → tb = b ∧ tbt = bt ∧ tn = es'.length ∧ OwnE (((w7.setCell ⟨w6.heap.size, 0, none⟩ (.int .i64 tb)).setCell ⟨w6.heap.size, 1, none⟩ (.int .i64 tbt)).setCell ⟨w6.heap.size, 2, none⟩ (.slice tA tn tc)) w6.heap.size (.slice tA tn tc) es') := Lib.hid (fun es' h => by
      obtain ⟨h1, h2, h3, h4⟩ := HOK.out.2 es' h
      have h5 : OwnE w7 (w6.heap.size + 1) (.slice tA tn tc) es' := by simpa using h4
      exact ⟨h1, h2, h3, OwnE.low (OwnE.set (OwnE.set (OwnE.set h5 (Nat.lt_succ_self _)) (Nat.lt_succ_self _)) (Nat.lt_succ_self _)) (Nat.le_succ _)⟩)
    have HB8 := Lib.hid (((HB1.out.trans HB5.out).trans HB6.out).trans (bel_base HB86.out K6.out.rest.bs))
    generalize hW8 : ((w7.setCell ⟨w6.heap.size, 0, none⟩ (.int .i64 tb)).setCell ⟨w6.heap.size, 1, none⟩ (.int .i64 tbt)).setCell ⟨w6.heap.size, 2, none⟩ (.slice tA tn tc) = W8 at *
    clear hW8
    have d8 := N8.out.blk.lt
    have e8 := N8.out.blk.free
    have t8 := HZ8.out.cells
    have cc8 : ∀ i, W8.cell? ⟨g, i, none⟩ = (nodeC (⟨id, conf, term, vote, 2, id, b, bt, es, snap, commit, 2, wait, [], List.replicate conf.length (ln + 1), List.replicate conf.length 0⟩) (⟨some ⟨cb, co, none⟩, cc, eA, ec, none, 0, A4, c4, some ⟨w5.heap.size, 0, none⟩, conf.length, oA, oc⟩) L.length)[i]? := N8.out.blk.cells
    dsimp only [nodeC] at cc8
    have hend : ∀ (x9 : NdX) (W9 : World) (e : Ending) (W : World), x9.cA = some ⟨cb, co, none⟩ → x9.cc = cc → Below base w W9 → Said 53 base g q x9 L (Rf.pushAll q) W9 e W → Led 53 base g q ⟨some ⟨cb, co, none⟩, cc, eA, ec, vA, vc, nA, nc, mA, mc, oA, oc⟩ L (Rf.pushAll q) w e W := fun x9 W9 e W h1 h2 h3 ⟨h4, ⟨col', oA', oc', LV, h5, h6⟩, h7⟩ => ⟨h4, ⟨col', { x9 with oA := oA', oc := oc' }, LV, h1, h2, h5, h6⟩, h3.trans h7⟩
    have HEND := Lib.hid hend
    clear hend
    cases ok with
    | false =>
      have hon : o = none := by have := HOK.out.1; cases o with | none => rfl | some _ => cases this
      rw [hon] at HF HQ
      simp only [Option.getD_none] at HF HQ
      clear hon
      go_wp2_with fail
      refine (own_calls N8 (Lib.hid HF.out.id) hn7 HF.out.next HF.out.mtch hlen HF.out.l0 HF.out.l1).mono ?_
      rintro e w9 ⟨rfl, ⟨col9, hN9⟩, hb9⟩
      have N9 := Lib.hid hN9
      have HB9 := Lib.hid hb9
      have HF9 := Lib.hid HF.out.own
      clear hN9 hb9
      go_wp2_with fail
      refine (agree_calls N9 HF9.out.c0 HF9.out.c7 HF9.out.mtch HF9.out.len).mono ?_
      rintro e w10 ⟨rfl, ⟨col10, hN10⟩, hb10⟩
      have HF10 := Lib.hid HF9.out.agree
      rw [← HQ.out] at hN10 HF10
      have N10 := Lib.hid hN10
      have HB10 := Lib.hid hb10
      clear hN10 hb10
      go_wp2_with fail
      refine (pushAll_calls N10 hL HF10.out.c0 HF10.out.c7 HF10.out.next HF10.out.b0 HF10.out.len HX).mono ?_
      intro e w11 hs
      have HS := Lib.hid hs
      obtain ⟨rfl, _, _⟩ := hs
      go_wp2_with fail
      go_end0
      exact HEND.out _ _ _ _ rfl rfl (HB8.out.trans (HB9.out.trans HB10.out)) HS.out
    | true =>
      obtain ⟨es', hoe⟩ : ∃ es', o = some es' := by have := HOK.out.1; cases o with | none => cases this | some e => exact ⟨e, rfl⟩
      obtain ⟨e1, e2, rfl, hOt⟩ := HR8.out es' hoe
      obtain rfl := e1.symm
      obtain rfl := e2.symm
      rw [hoe] at HF HQ
      simp only [Option.getD_some] at HF HQ
      have k9 := K6.out.log_new HB86.out b bt hOt
      have K9 := Lib.hid k9
      have HB9 := Lib.hid (((HB8.out.setCell (p := ⟨g, 6, none⟩) N1.out.ge (.int .i64 b)).setCell (p := ⟨g, 7, none⟩) N1.out.ge (.int .i64 bt)).setCell (p := ⟨g, 8, none⟩) N1.out.ge (.slice tA es'.length tc))
      clear hoe hOt k9
      go_wp2_with fail
      refine (own_calls K9 (Lib.hid HF.out.id) hn7 HF.out.next HF.out.mtch HF.out.len HF.out.l0 HF.out.l1).mono ?_
      rintro e w9 ⟨rfl, ⟨col9, hN9⟩, hb9⟩
      have N9 := Lib.hid hN9
      have HBA := Lib.hid hb9
      have HF9 := Lib.hid HF.out.own
      clear hN9 hb9
      go_wp2_with fail
      refine (agree_calls N9 HF9.out.c0 HF9.out.c7 HF9.out.mtch HF9.out.len).mono ?_
      rintro e w10 ⟨rfl, ⟨col10, hN10⟩, hb10⟩
      have HF10 := Lib.hid HF9.out.agree
      rw [← HQ.out] at hN10 HF10
      have N10 := Lib.hid hN10
      have HB10 := Lib.hid hb10
      clear hN10 hb10
      go_wp2_with fail
      refine (pushAll_calls N10 hL HF10.out.c0 HF10.out.c7 HF10.out.next HF10.out.b0 HF10.out.len HX).mono ?_
      intro e w11 hs
      have HS := Lib.hid hs
      obtain ⟨rfl, _, _⟩ := hs
      go_wp2_with fail
      go_end0
      exact HEND.out _ _ _ _ rfl rfl (HB9.out.trans (HBA.out.trans HB10.out)) HS.out
end Go.Proofs.YtdladjgdhnkkcaaGreat
