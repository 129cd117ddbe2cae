/-
  Contract: an item is taken out of a wheel.
  Conditions: the wheel holds S.
-/
import Derived.Test.YtheocdfccdpmbaaWhK
import Derived.BigQuiet
import Derived.StillTailTactics
namespace Go.Proofs.Ytheocdfccdpmbaa
open Go.RowKit Go.Maps
set_option linter.unusedVariables false
set_option linter.unusedSimpArgs false
set_option maxHeartbeats 8000000

/-- while places are looked through -/
structure CanS (w : World) (g mb : Nat) (pv : Nat → Value) (now : Int) (pl : Nat → List Itm) (D : DataW Unit) (id c : Int) (bx k : Nat) (pv' : Nat → Value) (pl' : Nat → List Itm) (W : World) : Prop where
  whl : Whl g mb now pv' pl' D W
  turn : Turn (WB g mb pv) w W
  wb : ∀ b, WB g mb pv' b → WB g mb pv b ∨ w.heap.size ≤ b
  far : ∀ b, WB g mb pv' b → b ≠ bx
  cell : W.cell? ⟨bx, 0, none⟩ = some (.int .i64 id)
  lt : bx < W.heap.size
  pls : ∀ j, pl' j = pl j ∨ pl' j = (pl j).filter (fun x => decide (x.id ≠ id))
  top : ∀ m, m < k → pl' (64 * m + Wh.place m c) = (pl (64 * m + Wh.place m c)).filter (fun x => decide (x.id ≠ id))
theorem CanS.bel {w : World} {g mb : Nat} {pv : Nat → Value} {now : Int} {pl : Nat → List Itm} {D : DataW Unit} {id c : Int} {bx k : Nat} {pv' : Nat → Value} {pl' : Nat → List Itm} {W W' : World} (h : CanS w g mb pv now pl D id c bx k pv' pl' W) (hb : Below W.heap.size W W') : CanS w g mb pv now pl D id c bx k pv' pl' W' :=
  { h with whl := h.whl.bel hb, turn := h.turn.trans (.bel (B := fun _ => False) hb) (fun b e => e.elim), cell := (hb.cell (p := ⟨bx, 0, none⟩) h.lt).trans h.cell, lt := Nat.lt_of_lt_of_le h.lt hb.size }
theorem CanS.step {w : World} {g mb : Nat} {pv : Nat → Value} {now : Int} {pl : Nat → List Itm} {D : DataW Unit} {id c : Int} {bx k : Nat} {pv' : Nat → Value} {pl' : Nat → List Itm} {W W' : World} (h : CanS w g mb pv now pl D id c bx k pv' pl' W) {j : Nat} (hj : j = 64 * k + Wh.place k c) (hk : k < 4)
    {v : Value} (ho : OwnL layW 31 W' 0 v (Wh.del id (pl' j))) (t : Turn (fun b => (pv' j).ownBlock = some b) W W') (hv : v.ownBlock = (pv' j).ownBlock) :
    CanS w g mb pv now pl D id c bx (k + 1) (updV pv' j v) (Wh.upd pl' j (Wh.del id (pl' j))) (W'.setCell ⟨g, j + 1, none⟩ v) := by
  have hj2 : j < 256 := by have := Wh.place_lt k c; omega
  have hvb : ∀ b, v.ownBlock = some b → (pv' j).ownBlock = some b ∨ W.heap.size ≤ b := fun b e => .inl (by rw [← hv]; exact e)
  have hwb := WB_upd (g := g) (mb := mb) (n := W.heap.size) hj2 hvb
  have hwb2 : ∀ b, WB g mb (updV pv' j v) b → WB g mb pv' b := fun b hb => by
    rcases hb with e | e | ⟨i, hi, e⟩
    · exact .inl e
    · exact .inr (.inl e)
    · unfold updV at e
      by_cases ci : i = j
      · rw [if_pos ci, hv] at e; exact .inr (.inr ⟨j, hj2, e⟩)
      · rw [if_neg ci] at e; exact .inr (.inr ⟨i, hi, e⟩)
  have hg : g < W.heap.size := h.whl.g_lt
  have hbx : bx ≠ g := fun e => h.far g (.inl rfl) e.symm
  have hff : (pl' j).filter (fun x => decide (x.id ≠ id)) = (pl j).filter (fun x => decide (x.id ≠ id)) := by
    rcases h.pls j with e | e
    · rw [e]
    · rw [e, List.filter_filter]; exact List.filter_congr fun x _ => by simp
  refine ⟨h.whl.setp hj2 t ho hvb, ?_, fun b hb => h.wb b (hwb2 b hb), fun b hb => h.far b (hwb2 b hb), ?_, ?_, fun i => ?_, fun m hm => ?_⟩
  · refine (h.turn.trans (t.mono (B' := WB g mb pv') fun b _ e => .inr (.inr ⟨j, hj2, e⟩)) h.wb).trans (Turn.set W' ⟨g, j + 1, none⟩ v) (fun b e => .inl ?_)
    rw [e]; exact .inl rfl
  · have e1 := t.block bx h.lt (fun e => h.far bx (.inr (.inr ⟨j, hj2, e⟩)) rfl)
    have e2 : (W'.setCell ⟨g, j + 1, none⟩ v).heap[bx]? = W.heap[bx]? := (Below.heap_setCell W' ⟨g, j + 1, none⟩ v bx hbx).trans e1
    exact (World.cell?_of_block (a := ⟨bx, 0, none⟩) e2).trans h.cell
  · have := Nat.lt_of_lt_of_le h.lt t.size
    simpa using this
  · unfold Wh.upd
    by_cases ci : i = j
    · subst ci
      rw [if_pos rfl]
      exact .inr hff
    · rw [if_neg ci]; exact h.pls i
  · unfold Wh.upd
    by_cases ci : 64 * m + Wh.place m c = j
    · rw [if_pos ci, ci]
      exact hff
    · rw [if_neg ci]
      refine h.top m ?_
      rcases Nat.lt_succ_iff_lt_or_eq.1 hm with e | e
      · exact e
      · subst e; exact absurd hj.symm ci
theorem CanS.len {w : World} {g mb : Nat} {pv : Nat → Value} {now : Int} {pl : Nat → List Itm} {D : DataW Unit} {id c : Int} {bx k : Nat} {pv' : Nat → Value} {pl' : Nat → List Itm} {W : World} (h : CanS w g mb pv now pl D id c bx k pv' pl' W) {S : List Itm} (hV : Wh.Inv now pl S) (hS : S.length ≤ 4096) {j : Nat} (hj : j < 256) : (pl' j).length ≤ 4096 := by
  have h1 : (pl j).length ≤ S.length := by rw [(hV.slots j hj).length_eq]; exact List.length_filter_le _ _
  rcases h.pls j with e | e
  · rw [e]; omega
  · rw [e]; exact Nat.le_trans (List.length_filter_le _ _) (by omega)
set_option maxRecDepth 20000 in
theorem cancel_calls {g mb : Nat} {pv : Nat → Value} {now : Int} {S : List Itm} {w : World} (H : Hid (WhS g mb pv now S w)) (id : Int) (hid0 : -9223372036854775808 ≤ id) (hid1 : id ≤ 9223372036854775807) :
    Calls Try.prog 36 #[.pointer (some ⟨g, 0, none⟩), .int .i64 id] w fun e w' => e = .returned (.bool (Wh.hasId S id)) ∧ WTo w g mb pv now (Wh.del id S) w' := by
  obtain ⟨pl, D, hW, hV, hM⟩ := H.out.ex
  have n0 := H.out.t0
  have hS := Lib.hid H.out.len
  have HW := Lib.hid hW
  have HV := Lib.hid hV
  have HM := Lib.hid hM
  obtain ⟨cv, hlk, hcv⟩ := hW.look hM hV.ids hid0 hid1
  have HLK := Lib.hid hlk
  have HCV := Lib.hid hcv
  clear hW hV hM hlk hcv
  obtain ⟨hb, hhb⟩ : ∃ hb, hb = Wh.hasId S id := ⟨_, rfl⟩
  rw [← hhb] at HLK ⊢
  have HHB := Lib.hid hhb
  clear hhb
  have HB1 := Lib.hid (bel_new (Below.refl w.heap.size w) (.cells #[.int .i64 id] 3))
  have HI1 := Lib.hid (Blk.new w 3 #[.int .i64 id])
  go_enter Try.func36, Try.ntmps36
  go_upto_region 1 with (fail)
  generalize hbxe : w.heap.size = bx at *
  generalize w.alloc (.cells #[.int .i64 id] 3) = w1 at *
  have N1 := Lib.hid (HW.out.bel (by rw [hbxe]; exact HB1.out))
  have i0 : w1.cell? ⟨bx, 0, none⟩ = some (.int .i64 id) := HI1.out.cells 0
  have cm : w1.cell? ⟨g, 257, none⟩ = some (.map (some mb)) := N1.out.cm.1
  have lk : ∀ n, (Instr.lookup 73 (.map (some mb)) (.int .i64 id) true).run Try.prog (w1.drewN n) = .ok (.tuple #[.int .i64 cv, .bool hb]) (w1.drewN n) := fun n => HLK.out _ (HB1.out.block mb (by rw [← hbxe]; exact HW.out.map.lt)).symm
  clear HLK
  go_upto_region 3 with (fail)
  cases hb with
  | false =>
    go_quiet (fail)
    go_wp2_with fail
    go_ret
    rw [Wh.del_none HHB.out.symm]
    exact ⟨rfl, WTo.bel H.out (by rw [hbxe]; exact bel_drewN HB1.out nq)⟩
  | true =>
    go_quiet (fail)
    go_upto_region 6 with (fail)
    have N2 := Lib.hid (N1.out.bel (bel_drewN (Below.refl _ _) nq))
    have HB2 := Lib.hid (bel_drewN HB1.out nq)
    have HI2 := Lib.hid (HI1.out.drewN nq)
    clear N1 HB1 HI1 i0 cm lk
    generalize w1.drewN nq = w2 at *
    have i0 : w2.cell? ⟨bx, 0, none⟩ = some (.int .i64 id) := HI2.out.cells 0
    have cm : w2.cell? ⟨g, 257, none⟩ = some (.map (some mb)) := N2.out.cm.1
    go_still_tail 5, (by kernel_rfl)
    change wpList _ _ _ _ _ w2.drew
    have N3 := Lib.hid (N2.out.bel (bel_drew (Below.refl _ _)))
    have HB3 := Lib.hid (bel_drew HB2.out)
    have HI3 : Hid (Blk w2.drew bx 3 #[.int .i64 id]) := Lib.hid HI2.out
    clear N2 HB2 HI2 i0 cm
    generalize w2.drew = w3 at *
    have HF0 : Hid (∀ b, WB g mb pv b → b ≠ bx) := Lib.hid (fun b e e2 => by have := HW.out.lt b e; omega)
    go_wp2_with (at_delete; refine wpList_delete_own _ rfl _ _ 73 3 rfl 2 kLaw Try.underlying73 _ mb _ D rfl N3.out.map _ (kI id) rfl (keyOf_int_mk Try.underlying3 (wfI hid0 hid1)) ?_; intro w4 hown4 hturn4; have V1 := Lib.hid (N3.out.setm hturn4.grown hown4); have V2 : Hid (Turn (WB g mb pv) w w4) := Lib.hid (Turn.trans (.bel (B := WB g mb pv) (by rw [hbxe]; exact HB3.out)) (.grown hturn4.grown) (fun b e => .inl (.inr (.inl (by injection e with e; exact e.symm))))); have V3 := Lib.hid (HI3.out.turn (.grown hturn4.grown) (fun e => HF0.out mb (.inr (.inl rfl)) (by injection e with e))); clear hown4 hturn4)
    have HCS : Hid (CanS w g mb pv now pl (D.del (kI id)) id cv bx 0 pv pl w4) := Lib.hid ⟨V1.out, V2.out, fun b e => .inl e, HF0.out, V3.out.cells 0, V3.out.lt, fun j => .inl rfl, fun m hm => absurd hm (Nat.not_lt_zero _)⟩
    have HMD : Hid (MapIs (D.del (kI id)) (Wh.del id S)) := Lib.hid (HM.out.del (N3.out.map.tidy kLaw) HV.out.ids id)
    have hcv : 0 ≤ cv ∧ cv ≤ 226157759 := by
      have h1 := HHB.out
      obtain ⟨x, hx, hxi⟩ := List.any_eq_true.1 h1.symm
      have hxi : x.id = id := by simpa using hxi
      have h2 := HCV.out x hx hxi
      have h3 := H.out.times x hx
      omega
    have HC2 := Lib.hid hcv
    clear V1 V2 V3 N3 HB3 HI3 hcv
    go_wp2_with fail
    go_loopg [7, 8, 27] 4 (fun n v7 v8 v27 W => ∃ (k : Nat) (pv' : Nat → Value) (pl' : Nat → List Itm), v27 = .int .i64 k ∧ n + k = 4 ∧ Hid (CanS w g mb pv now pl (D.del (kI id)) id cv bx k pv' pl' W))
    case atStart => exact ⟨0, pv, pl, rfl, rfl, HCS⟩
    case round =>
      clear HCS
      obtain ⟨k, pv', pl', rfl, hnk, HI⟩ := hrel
      by_cases hk4 : k < 4
      · have hki : (k : Int) < 4 := by omega
        obtain ⟨n, rfl⟩ : ∃ n, gk = n + 1 := ⟨gk - 1, by omega⟩
        have HN := Lib.hid hnk
        have HPL := Lib.hid (fun W => place_calls k hk4 cv HC2.out.1 HC2.out.2 W)
        obtain ⟨p, hpe⟩ : ∃ p, p = Wh.place k cv := ⟨_, rfl⟩
        have hp4 : p < 64 := by rw [hpe]; exact Wh.place_lt k cv
        rw [← hpe] at HPL
        have HPE := Lib.hid hpe
        obtain ⟨j, hjk⟩ : ∃ j, j = 64 * k + p := ⟨_, rfl⟩
        have HJ := Lib.hid hjk
        have HJ2 : Hid (j < 256) := Lib.hid (by omega)
        clear hnk hpe hjk
        go_upto_region 10 with (fail)
        go_quiet ((go_at_call 53; exact quiet_of_eq (HPL.out _)))
        go_upto_region 11 with (fail)
        rw [show 1 + k * 64 + p = j + 1 from by have := HJ.out; omega]
        have HI2 := Lib.hid (HI.out.bel (bel_drewN (Below.refl _ _) nq))
        clear HI HPL
        generalize wr.drewN nq = w5 at *
        obtain ⟨cj, fj⟩ := HI2.out.whl.cp j HJ2.out
        have HDF := Lib.hid (delf_calls (pv' j) (pl' j) bx id w5 (Lib.hid (HI2.out.whl.places j HJ2.out)) (by have := HI2.out.len HV.out hS.out HJ2.out; omega) HI2.out.lt (Lib.hid HI2.out.cell) (Lib.hid (fun b e e2 => HI2.out.far b (.inr (.inr ⟨j, HJ2.out, e⟩)) e2.symm)))
        go_wp2_with fail
        refine HDF.out.mono ?_
        rintro e w6 ⟨v', rfl, ho6, ht6, hv6⟩
        obtain ⟨A6, cp6, rfl, -, -, -, -⟩ := ho6.form
        have HS6 := Lib.hid (HI2.out.step (by rw [← HPE.out]; exact HJ.out) hk4 ho6 ht6 hv6)
        have cj6 : w6.cell? ⟨g, j + 1, none⟩ = some (pv' j) := (World.cell?_of_block (a := ⟨g, j + 1, none⟩) (ht6.block g HI2.out.whl.g_lt (fun e => (HI2.out.whl.far j HJ2.out g e).1 rfl))).trans cj
        have fj6 : w6.frozen? ⟨g, j + 1, none⟩ = false := by
          have e1 : w6.heap[g]? = w5.heap[g]? := ht6.block g HI2.out.whl.g_lt (fun e => (HI2.out.whl.far j HJ2.out g e).1 rfl)
          have : w6.frozen? ⟨g, j + 1, none⟩ = w5.frozen? ⟨g, j + 1, none⟩ := by simp only [World.frozen?, e1]
          rw [this]; exact fj
        clear cj fj HDF ho6 ht6 hv6 HI2
        go_wp2_with fail
        go_roundg n
        case rel => exact ⟨k + 1, _, _, by go_num, by have := HN.out; omega, HS6⟩
        case measure => omega
      · have hki : ¬ (k : Int) < 4 := by omega
        have hk : k = 4 := by omega
        subst hk
        clear hnk
        go_wp2_with fail
        go_ret
        have h4 := HI.out
        refine ⟨rfl, pv', ⟨⟨pl', _, h4.whl, HV.out.cut HCV.out h4.pls (fun m hm => h4.top m hm), HMD.out⟩, Nat.le_trans Wh.del_len hS.out, H.out.t0, H.out.t1, fun x hx => H.out.wf x (List.mem_filter.1 hx).1⟩, h4.turn, ?_⟩
        rw [hbxe]
        have := h4.wb
        rwa [hbxe] at this
end Go.Proofs.Ytheocdfccdpmbaa
