
/-
  Contract: the answers that the document fixes.
  No condition.
-/
import Derived.Test.YtdladjgdhnkkcaaZRf27
import Derived.Deep.Cut

namespace Go.Proofs.Ytdladjgdhnkkcaa
open Go.RowKit
set_option linter.unusedVariables false
set_option linter.unusedSimpArgs false
set_option maxHeartbeats 4000000

namespace Rf
/-- a new node behind so many ticks -/
def awk (k : Nat) : Nod := if k < 10 then ⟨2, [1, 2, 3], 0, 0, 0, 0, 0, 0, [], ByteArray.empty, 0, 10 - k, 10, [], [], []⟩ else ⟨2, [1, 2, 3], 1, 2, 1, 0, 0, 0, [], ByteArray.empty, 0, 14, 14, [2], [], []⟩
def awkM : List Msg := [⟨1, 2, 1, 1, 0, 0, 0, false, [], ByteArray.empty⟩, ⟨1, 2, 3, 1, 0, 0, 0, false, [], ByteArray.empty⟩]
def awkG : Msg := ⟨2, 3, 2, 1, 0, 0, 0, true, [], ByteArray.empty⟩
theorem awk_next : ∀ k, k < 10 → (tick (awk k) 4).1 = awk (k + 1) ∧ (k = 9 → (tick (awk k) 4).2 = awkM)
  | 0, _ => ⟨by rfl, fun h => by cases h⟩
  | 1, _ => ⟨by rfl, fun h => by cases h⟩
  | 2, _ => ⟨by rfl, fun h => by cases h⟩
  | 3, _ => ⟨by rfl, fun h => by cases h⟩
  | 4, _ => ⟨by rfl, fun h => by cases h⟩
  | 5, _ => ⟨by rfl, fun h => by cases h⟩
  | 6, _ => ⟨by rfl, fun h => by cases h⟩
  | 7, _ => ⟨by rfl, fun h => by cases h⟩
  | 8, _ => ⟨by rfl, fun h => by cases h⟩
  | 9, _ => ⟨by rfl, fun _ => by rfl⟩
  | n + 10, h => absurd h (by omega)
theorem awk_hand : (handle (awk 10) awkG).1.role = 2 ∧ (handle (awk 10) awkG).2.length = 2 ∧ ((handle (awk 10) awkG).2.getD 0 default).es.length = 1 ∧ (handle (awk 10) awkG).1.es.length = 1 :=
  ⟨by rfl, by rfl, by rfl, by rfl⟩
theorem awk_sz (k : Nat) : Sz (awk k) := by
  unfold awk
  split <;> exact ⟨by simp, by simp, by simp, by simp, by simp⟩
end Rf
/-- the loop's state -/
structure WInv (w : World) (g k n : Nat) (x : NdX) (LV : List MsgV) (W : World) : Prop where
  sum : n + k = 10
  bel : Below w.heap.size w W
  lo : w.heap.size ≤ g
  lt : g < W.heap.size
  blk : Blk W g 48 (raftL (Rf.awk k) x).toArray
  rest : ∃ base col, Rest base col (Rf.awk k) x LV W
  said : k = 10 → LV.map (·.m) = Rf.awkM
theorem new_one (W : World) : Calls Try.prog 66 #[.int .i64 2, .slice (some ⟨W.heap.size, 0, none⟩) 3 3] (W.alloc (.cells #[.int .i64 1, .int .i64 2, .int .i64 3] 3)) fun e w' =>
    (∃ x col, e = .returned (.tuple #[raftV (Rf.awk 0) x, .int .i64 0]) ∧ Rest (W.heap.size + 1) col (Rf.awk 0) x [] w') ∧ Below W.heap.size W w' :=
  (new_calls 2 (some ⟨W.heap.size, 0, none⟩) 3 [1, 2, 3] _ (Lib.hid (rdL_lit W _ [1, 2, 3] (by decide) _ rfl)) (by decide)).mono fun e w' h => by
    unfold NewR at h
    rw [if_pos (by rfl)] at h
    obtain ⟨⟨x, col, h1, h2⟩, h3⟩ := h
    rw [size_alloc] at h2 h3
    exact ⟨⟨x, col, h1, h2⟩, bel_tr (bel_new (Below.refl _ _) _) (by rw [size_alloc]; exact h3)⟩
theorem new_two (W : World) : Calls Try.prog 66 #[.int .i64 4, .slice (some ⟨W.heap.size, 0, none⟩) 3 3] (W.alloc (.cells #[.int .i64 1, .int .i64 2, .int .i64 3] 3)) fun e w' =>
    (∃ v, e = .returned (.tuple #[.agg v, .int .i64 1]) ∧ v.size = 16 ∧ v.all (·.oneCell') = true) ∧ Below W.heap.size W w' :=
  (new_calls 4 (some ⟨W.heap.size, 0, none⟩) 3 [1, 2, 3] _ (Lib.hid (rdL_lit W _ [1, 2, 3] (by decide) _ rfl)) (by decide)).mono fun e w' h => by
    unfold NewR at h
    rw [if_neg (by decide)] at h
    rw [size_alloc] at h
    exact ⟨h.1, bel_tr (bel_new (Below.refl _ _) _) (by rw [size_alloc]; exact h.2)⟩
theorem Rest.rdA {base : Nat} {col : Nat → Nat} {k : Nat} {x : NdX} {L : List MsgV} {w : World} (h : Rest base col (Rf.awk k) x L w) : RdR w (Rf.awk k) x :=
  h.rdR (Rf.awk_sz k).conf (Rf.awk_sz k).es (Rf.awk_sz k).votes (Rf.awk_sz k).next (Rf.awk_sz k).mtch
/-- two messages, cell by cell -/
theorem Rest.two {base : Nat} {col : Nat → Nat} {r : Nod} {x : NdX} {LV : List MsgV} {w : World} (h : Rest base col r x LV w) {m n : Msg} (hm : LV.map (·.m) = [m, n]) :
    LV.length = 2 ∧ ∃ b c0 c1 A0 A1, x.oA = some ⟨b, 0, none⟩ ∧ b < w.heap.size ∧ (∀ r u, (MsgV.cells ⟨m, A0, c0⟩)[r]? = some u → w.cell? ⟨b, r, none⟩ = some u) ∧ (∀ r u, (MsgV.cells ⟨n, A1, c1⟩)[r]? = some u → w.cell? ⟨b, 10 + r, none⟩ = some u) := by
  match LV, hm with
  | [y0, y1], hm =>
    simp only [List.map_cons, List.map_nil, List.cons.injEq, and_true] at hm
    obtain ⟨rfl, rfl⟩ := hm
    refine ⟨rfl, ?_⟩
    obtain ⟨A, cap, hv, _, _, hR, ho⟩ := h.out.form
    injection hv with hA _ _
    subst hA
    obtain ⟨b, off, hb, hlt, h0⟩ := hR 0 (by simp)
    obtain ⟨b', off', hb', hlt', h1⟩ := hR 1 (by simp)
    rw [hb] at hb'
    injection hb' with hb'
    injection hb' with hb1 hb2
    subst hb1 hb2
    obtain ⟨_, rfl, _⟩ := ho _ _ _ hb
    exact ⟨b, y0.cap, y1.cap, y0.A, y1.A, hb, hlt, fun r u hu => by simpa using h0 r u hu, fun r u hu => by simpa [layM] using h1 r u hu⟩
set_option maxRecDepth 100000 in
set_option maxHeartbeats 20000000 in
theorem raft_awake (w : World) : Calls Try.prog 36 #[] w fun e w' => e = .returned (.bool true) ∧ Below w.heap.size w w' := by
  have HN1 := Lib.hid (fun W => new_one W)
  have HN2 := Lib.hid (fun W => new_two W)
  go_enter Try.func36, Try.ntmps36
  go_upto_region 1 with (fail)
  go_wp2_with fail
  refine (HN1.out w).mono ?_
  rintro e w1 ⟨⟨x1, col1, rfl, hR1⟩, hb1⟩
  have HR1 := Lib.hid hR1
  have HB1 := Lib.hid hb1
  have hlt1 : w.heap.size + 1 ≤ w1.heap.size := hR1.bs
  clear hR1 hb1
  go_upto_region 2 with (fail)
  --CONT
  have HK2 := Lib.hid (Blk.new w1 48 (raftL (Rf.awk 0) x1).toArray)
  have hbn := bel_new (Below.refl w1.heap.size w1) (.cells (raftL (Rf.awk 0) x1).toArray 48)
  have HR2 := Lib.hid (HR1.out.bel hbn)
  have HB2 := Lib.hid (bel_tr HB1.out hbn)
  have hs2 : (w1.alloc (.cells (raftL (Rf.awk 0) x1).toArray 48)).heap.size = w1.heap.size + 1 := by rw [size_alloc]
  have HS2 := Lib.hid hs2
  clear hbn hs2 HR1 HB1
  generalize w1.alloc (.cells (raftL (Rf.awk 0) x1).toArray 48) = w2 at *
  go_wp2_with fail
  refine (HN2.out w2).mono ?_
  rintro e w3 ⟨⟨v, rfl, hv, hv1⟩, hb3⟩
  have HV := Lib.hid hv
  have HK3 := Lib.hid (HK2.out.bel hb3)
  have HR3 := Lib.hid (HR2.out.bel hb3)
  have HB3 := Lib.hid (bel_tr HB2.out hb3)
  have hlt3 : w1.heap.size + 1 ≤ w3.heap.size := by have := hb3.size; have := HS2.out; omega
  clear hv hb3 HK2 HR2 HB2 HS2 HN1 HN2
  have HZ := Lib.hid (Blk.new w3 48 #[.int .i64 0, .slice none 0 0, .int .i64 0, .int .i64 0, .int .i64 0, .int .i64 0, .int .i64 0, .int .i64 0, .slice none 0 0, .string ⟨#[]⟩, .int .i64 0, .int .i64 0, .int .i64 0, .slice none 0 0, .slice none 0 0, .slice none 0 0])
  go_upto_region 3 with (refine wpList_storeB rfl 48 (.tmp 3) (.tmp 15) rfl w3.heap.size v rfl rfl HZ.out (by rw [HV.out]; exact infoR) (by rw [HV.out]; rfl) hv1 ?_)
  have hbn := bel_row (bel_new (Below.refl w3.heap.size w3) (.cells #[.int .i64 0, .slice none 0 0, .int .i64 0, .int .i64 0, .int .i64 0, .int .i64 0, .int .i64 0, .int .i64 0, .slice none 0 0, .string ⟨#[]⟩, .int .i64 0, .int .i64 0, .int .i64 0, .slice none 0 0, .slice none 0 0, .slice none 0 0] 48)) (Nat.le_refl _) v
  have hs4 : ((w3.alloc (.cells #[.int .i64 0, .slice none 0 0, .int .i64 0, .int .i64 0, .int .i64 0, .int .i64 0, .int .i64 0, .int .i64 0, .slice none 0 0, .string ⟨#[]⟩, .int .i64 0, .int .i64 0, .int .i64 0, .slice none 0 0, .slice none 0 0, .slice none 0 0] 48)).setRow w3.heap.size v).heap.size = w3.heap.size + 1 := by rw [setRow_size, size_alloc]
  have HK4 := Lib.hid (HK3.out.bel hbn)
  have HR4 := Lib.hid (HR3.out.bel hbn)
  have HB4 := Lib.hid (bel_tr HB3.out hbn)
  have hlt4 : w1.heap.size < ((w3.alloc (.cells #[.int .i64 0, .slice none 0 0, .int .i64 0, .int .i64 0, .int .i64 0, .int .i64 0, .int .i64 0, .int .i64 0, .slice none 0 0, .string ⟨#[]⟩, .int .i64 0, .int .i64 0, .int .i64 0, .slice none 0 0, .slice none 0 0, .slice none 0 0] 48)).setRow w3.heap.size v).heap.size := by omega
  clear hbn hs4 HK3 HR3 HB3 HZ hlt3 hv1 HV
  generalize (w3.alloc (.cells #[.int .i64 0, .slice none 0 0, .int .i64 0, .int .i64 0, .int .i64 0, .int .i64 0, .int .i64 0, .int .i64 0, .slice none 0 0, .string ⟨#[]⟩, .int .i64 0, .int .i64 0, .int .i64 0, .slice none 0 0, .slice none 0 0, .slice none 0 0] 48)).setRow w3.heap.size v = w4 at *
  have HI := Lib.hid (show WInv w w1.heap.size 0 10 { x1 with oA := none, oc := 0 } [] w4 from ⟨rfl, HB4.out, by omega, hlt4, HK4.out, ⟨_, _, HR4.out.out0⟩, fun h => by cases h⟩)
  clear HK4 HR4 HB4 hlt4
  go_wp2_with fail
  go_loopg [5, 6] 10 (fun n v5 v6 W => ∃ (k : Nat) (x : NdX) (LV : List MsgV), v6 = .int .i64 k ∧ v5 = .slice x.oA LV.length x.oc ∧ Hid (WInv w w1.heap.size k n x LV W))
  case atStart => exact ⟨0, { x1 with oA := none, oc := 0 }, [], rfl, rfl, HI⟩
  case round =>
    obtain ⟨k, x, LV, rfl, rfl, HK⟩ := hrel
    clear HI
    by_cases hlt : k < 10
    · have hl : (k : Int) < 10 := by omega
      obtain ⟨n, rfl⟩ : ∃ n, gk = n + 1 := ⟨gk - 1, by have := HK.out.sum; omega⟩
      obtain ⟨base, col, hR⟩ := HK.out.rest
      have HT := Lib.hid (fun (W : World) (hr : Hid (RdR W (Rf.awk k) x)) => tick_calls (Rf.awk k) x W hr 4 (by decide) (by decide))
      rw [(Rf.awk_next k hlt).1] at HT
      have HRD := Lib.hid hR.rdA
      have hwk : IntKind.i64.wrap ((k : Int) + 1) = ((k + 1 : Nat) : Int) := by rw [IntWalk.i64_in _ (by omega)]; omega
      have HWK := Lib.hid hwk
      clear hR hwk
      go_wp2_with (refine wpList_loadB rfl 48 (.tmp 1) rfl w1.heap.size rfl HK.out.blk Try.underlying48 infoR ?_)
      refine (HT.out _ HRD).mono ?_
      rintro e w6 ⟨⟨x6, col6, LV6, rfl, hm6, hR6⟩, hb6⟩
      have HR6 := Lib.hid hR6
      have HM6 := Lib.hid hm6
      have HK6 := Lib.hid (HK.out.blk.bel hb6)
      have HB6 := Lib.hid (bel_tr HK.out.bel hb6)
      have HLT := Lib.hid (show w1.heap.size < wr.heap.size from HK.out.lt)
      have HLT6 := Lib.hid (show w1.heap.size < w6.heap.size from Nat.lt_of_lt_of_le HK.out.lt hb6.size)
      clear hR6 hm6 hb6
      go_wp2_with (refine wpList_storeB rfl 48 (.tmp 1) (.tmp 24) rfl w1.heap.size (raftL (Rf.awk (k + 1)) x6).toArray rfl rfl HK6.out infoR rfl (raftL_one _ _) ?_)
      go_roundg n
      case rel => exact ⟨k + 1, x6, LV6, by go_num, rfl, Lib.hid ⟨by have := HK.out.sum; omega, bel_row HB6.out (by omega) _, by omega, by rw [setRow_size]; exact HLT6.out, HK6.out.rowSame _, ⟨_, _, Rest.row1 HR6.out.lowCol (lowCol_lt HLT.out) _⟩, fun h => by rw [HM6.out]; exact (Rf.awk_next k hlt).2 (by omega)⟩⟩
      case measure => omega
    · have hl : ¬ (k : Int) < 10 := by omega
      obtain rfl : gk = 0 := by have := HK.out.sum; omega
      obtain rfl : k = 10 := by have := HK.out.sum; omega
      obtain ⟨base, col, hR⟩ := HK.out.rest
      obtain ⟨hn2, b, d0, d1, A0, A1, hoA, hbl, h0, h1⟩ := hR.two (m := ⟨1, 2, 1, 1, 0, 0, 0, false, [], ByteArray.empty⟩) (n := ⟨1, 2, 3, 1, 0, 0, 0, false, [], ByteArray.empty⟩) (HK.out.said rfl)
      have k4 : wr.cell? ⟨w1.heap.size, 4, none⟩ = some (.int .i64 1) := HK.out.blk.cells 4
      have k2 : wr.cell? ⟨w1.heap.size, 2, none⟩ = some (.int .i64 1) := HK.out.blk.cells 2
      have k12 : wr.cell? ⟨w1.heap.size, 12, none⟩ = some (.int .i64 14) := HK.out.blk.cells 12
      have m0 : wr.cell? ⟨b, 0, none⟩ = some (.int .i64 1) := h0 0 _ rfl
      have m1 : wr.cell? ⟨b, 12, none⟩ = some (.int .i64 3) := h1 2 _ rfl
      have HRD := Lib.hid hR.rdA
      clear hR h0 h1
      rw [hoA, hn2]
      have HH := Lib.hid (fun (W : World) (hr : Hid (RdR W (Rf.awk 10) x)) => handle_calls (Rf.awk 10) x W hr Rf.awkG none 0 (Lib.hid ⟨Nat.le_refl _, fun i hi => absurd hi (by simp [Rf.awkG])⟩) (by simp [Rf.awkG]))
      obtain ⟨q, hq⟩ : ∃ q, q = (Rf.handle (Rf.awk 10) Rf.awkG).1 := ⟨_, rfl⟩
      obtain ⟨Ms, hMs⟩ : ∃ Ms, Ms = (Rf.handle (Rf.awk 10) Rf.awkG).2 := ⟨_, rfl⟩
      have hh := Rf.awk_hand
      rw [← hq, ← hMs] at hh HH
      have HHH := Lib.hid hh
      clear hq hMs hh
      go_wp2_with (refine wpList_loadB rfl 48 (.tmp 1) rfl w1.heap.size rfl HK.out.blk Try.underlying48 infoR ?_)
      refine (HH.out wr HRD).mono ?_
      rintro e w6 ⟨⟨x6, col6, LV6, rfl, hm6, hR6⟩, hb6⟩
      have HR6 := Lib.hid hR6
      have HM6 := Lib.hid hm6
      have HK6 := Lib.hid (HK.out.blk.bel hb6)
      have HB6 := Lib.hid (bel_tr HK.out.bel hb6)
      have HLT := Lib.hid (show w1.heap.size < wr.heap.size from HK.out.lt)
      clear hR6 hm6 hb6 k4 k2 k12 m0 m1 hbl
      go_upto_region 11 with (refine wpList_storeB rfl 48 (.tmp 1) (.tmp 70) rfl w1.heap.size (raftL q x6).toArray rfl rfl HK6.out infoR rfl (raftL_one _ _) ?_)
      have HR7 := Lib.hid (Rest.row1 HR6.out.lowCol (lowCol_lt HLT.out) (raftL q x6).toArray)
      have HK7 := Lib.hid (HK6.out.rowSame (raftL q x6).toArray)
      have HB7 := Lib.hid (bel_row HB6.out (show w.heap.size ≤ w1.heap.size by omega) (raftL q x6).toArray)
      generalize w6.setRow w1.heap.size (raftL q x6).toArray = w7 at *
      obtain ⟨hq1, hq2, hq3, hq4⟩ := HHH.out
      match Ms, hq2, hq3, HM6 with
      | [a0, a1], _, hq3, HM6 =>
      obtain ⟨hn6, b6, e0, e1, B0, B1, hoB, hbl6, h0, h1⟩ := HR7.out.two HM6.out
      have k4 : w7.cell? ⟨w1.heap.size, 4, none⟩ = some (.int .i64 2) := by rw [← hq1]; exact HK7.out.cells 4
      have k8 : w7.cell? ⟨w1.heap.size, 8, none⟩ = some (.slice x6.eA 1 x6.ec) := by rw [← hq4]; exact HK7.out.cells 8
      have m8 : w7.cell? ⟨b6, 8, none⟩ = some (.slice B0 1 e0) := by have := h0 8 _ rfl; rw [this, show a0.es.length = 1 from hq3]
      rw [hoB, hn6]
      clear h0 h1 HR6 HK6 HB6 HLT HR7 HK7 HK
      go_wp2_with fail
      go_ret
      exact ⟨rfl, HB7.out⟩
end Go.Proofs.Ytdladjgdhnkkcaa
