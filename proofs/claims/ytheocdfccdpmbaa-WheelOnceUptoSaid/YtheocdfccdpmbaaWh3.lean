/-
  Contract: an item is put into a wheel.
  Conditions: the wheel holds S.
-/
import Derived.Test.YtheocdfccdpmbaaWh2
import Derived.StillTailTactics
import Derived.Maps.RangeWalk
namespace Go.Proofs.Ytheocdfccdpmbaa
open Go.RowKit Go.Maps
set_option linter.unusedVariables false
set_option linter.unusedSimpArgs false
set_option maxHeartbeats 4000000

theorem kLaw : Keyed Try.prog 3 := int_keyed Try.underlying3
theorem zeroE (w : World) : (zeroValue 2).run Try.prog w = .ok (.int .i64 0) w := by kernel_rfl
theorem wfI {x : Int} (h0 : -9223372036854775808 ≤ x) (h1 : x ≤ 9223372036854775807) : (Lit.int .i64 x).wf = true := by
  simp [Lit.wf, IntKind.min, IntKind.max, IntKind.signed, IntKind.bits]; omega
theorem litI_inj {a b : Int} (h : (DataW.lit (.int .i64 a) : DataW Unit) = .lit (.int .i64 b)) : a = b := by
  injection h with h
  injection h with _ h
/-- a look-up in a wheel's map -/
theorem Whl.look {g mb : Nat} {now : Int} {pv : Nat → Value} {pl : Nat → List Itm} {D : DataW Unit} {w : World} (h : Whl g mb now pv pl D w) {S : List Itm} (hM : MapIs D S) (ids : S.Pairwise (fun a b => a.id ≠ b.id)) {id : Int} (h0 : -9223372036854775808 ≤ id) (h1 : id ≤ 9223372036854775807) :
    ∃ c, (∀ W, w.heap[mb]? = W.heap[mb]? → (Instr.lookup 73 (.map (some mb)) (.int .i64 id) true).run Try.prog W = .ok (.tuple #[.int .i64 c, .bool (Wh.hasId S id)]) W) ∧ ∀ x ∈ S, x.id = id → x.at_ = c := by
  have key : ∀ W, w.heap[mb]? = W.heap[mb]? → ∃ c, (Instr.lookup 73 (.map (some mb)) (.int .i64 id) true).run Try.prog W = .ok (.tuple #[.int .i64 c, .bool (Wh.hasId S id)]) W ∧ D.atKey (kI id) (.lit (.int .i64 0)) = .lit (.int .i64 c) := fun W hW => by
    obtain ⟨es, clock, he, F, hs, hD⟩ := h.map
    have hm : W.ownsMap Try.prog 3 (plainElem Try.prog 2) mb (Maps.size D) D := ⟨es, clock, by rw [← hW]; exact he, F, hs, hD⟩
    obtain ⟨v, ps, hrun, hv⟩ := hm.look_ok kLaw Try.underlying73 (zeroE W) (plainElem_int Try.underlying2 (by decide)) (keyOf_int_mk Try.underlying3 (wfI h0 h1))
    obtain ⟨c, rfl, hc, _⟩ := plainElem_int_inv Try.underlying2 hv
    refine ⟨c, ?_, congrArg Prod.fst hc⟩
    rw [hrun]
    have := hM.has id
    unfold Wh.hasId
    rw [← this]
  obtain ⟨c, _, hc⟩ := key w rfl
  refine ⟨c, fun W hW => ?_, fun x hx e => ?_⟩
  · obtain ⟨c', hr, hc'⟩ := key W hW
    rw [hr, litI_inj (hc'.symm.trans hc)]
  · have := hM.at_ x hx (.lit (.int .i64 0))
    rw [e] at this
    exact (litI_inj (this.symm.trans hc))
set_option maxRecDepth 20000 in
theorem insert_calls {g mb : Nat} {pv : Nat → Value} {now : Int} {S : List Itm} {w : World} (H : Hid (WhS g mb pv now S w)) (i : Itm) (hid0 : -9223372036854775808 ≤ i.id) (hid1 : i.id ≤ 9223372036854775807) :
    Calls Try.prog 15 #[.pointer (some ⟨g, 0, none⟩), itmV i] w fun e w' => e = .returned (.int .i64 (Wh.insE now S i)) ∧ WTo w g mb pv now (Wh.insS now S i) w' := by
  obtain ⟨er, her⟩ : ∃ er, er = Wh.insE now S i := ⟨_, rfl⟩
  rw [← her]
  have HE := Lib.hid her
  clear her
  obtain ⟨pl, D, hW, hV, hM⟩ := H.out.ex
  have n0 := H.out.t0
  have n1 := H.out.t1
  have HW := Lib.hid hW
  have HV := Lib.hid hV
  have HM := Lib.hid hM
  obtain ⟨cv, hlk, _⟩ := hW.look hM hV.ids hid0 hid1
  have HLK := Lib.hid hlk
  clear hW hV hM hlk
  obtain ⟨id, a⟩ := i
  simp only at hid0 hid1 HLK
  have HB1 := Lib.hid (bel_new (Below.refl w.heap.size w) (.cells #[.int .i64 id, .int .i64 a] 31))
  have HI1 := Lib.hid (Blk.new w 31 #[.int .i64 id, .int .i64 a])
  go_enter Try.func15, Try.ntmps15
  go_upto_region 1 with (fail)
  generalize w.alloc (.cells #[.int .i64 id, .int .i64 a] 31) = w1 at *
  have N1 := Lib.hid (HW.out.bel HB1.out)
  have i1 : ∀ i, w1.cell? ⟨w.heap.size, i, none⟩ = (#[.int .i64 id, .int .i64 a] : Array Value)[i]? := HI1.out.cells
  have c0 : w1.cell? ⟨g, 0, none⟩ = some (.int .i64 now) := N1.out.c0.1
  by_cases b1 : a ≤ now
  · have d1 : decide (a ≤ now) = true := by simpa using b1
    go_quiet (fail)
    go_wp2_with fail
    go_ret
    have e1 : er = 30 := by rw [HE.out]; unfold Wh.insE; rw [if_neg (fun h => by have := h.1; simp only at this; omega)]
    have e2 : Wh.insS now S ⟨id, a⟩ = S := by unfold Wh.insS; rw [← HE.out, e1, if_neg (by decide)]
    rw [e2, e1]
    exact ⟨rfl, WTo.bel H.out (bel_drewN HB1.out nq)⟩
  have d1 : decide (a ≤ now) = false := by simpa using b1
  by_cases b2 : 226157759 < a
  · have d2 : decide (226157759 < a) = true := by simpa using b2
    go_quiet (fail)
    go_wp2_with fail
    go_ret
    have e1 : er = 30 := by rw [HE.out]; unfold Wh.insE; rw [if_neg (fun h => by have := h.2.1; simp only at this; omega)]
    have e2 : Wh.insS now S ⟨id, a⟩ = S := by unfold Wh.insS; rw [← HE.out, e1, if_neg (by decide)]
    rw [e2, e1]
    exact ⟨rfl, WTo.bel H.out (bel_drewN HB1.out nq)⟩
  have d2 : decide (226157759 < a) = false := by simpa using b2
  have hw : IntKind.i64.wrap (a - now) = a - now := IntWalk.i64_in _ (by omega)
  by_cases b3 : 262144 < a - now
  · have d3 : decide (262144 < a - now) = true := by simpa using b3
    go_quiet (fail)
    go_wp2_with fail
    go_ret
    have e1 : er = 30 := by rw [HE.out]; unfold Wh.insE; rw [if_neg (fun h => by have := h.2.2; simp only at this; omega)]
    have e2 : Wh.insS now S ⟨id, a⟩ = S := by unfold Wh.insS; rw [← HE.out, e1, if_neg (by decide)]
    rw [e2, e1]
    exact ⟨rfl, WTo.bel H.out (bel_drewN HB1.out nq)⟩
  have d3 : decide (262144 < a - now) = false := by simpa using b3
  go_quiet (fail)
  go_upto_region 3 with (fail)
  have N2 := Lib.hid (N1.out.bel (bel_drewN (Below.refl _ _) nq))
  have HB2 := Lib.hid (bel_drewN HB1.out nq)
  have HI2 := Lib.hid (HI1.out.drewN nq)
  clear N1 HB1 HI1 i1 c0
  generalize w1.drewN nq = w2 at *
  have lk : ∀ n, (Instr.lookup 73 (.map (some mb)) (.int .i64 id) true).run Try.prog (w2.drewN n) = .ok (.tuple #[.int .i64 cv, .bool (Wh.hasId S id)]) (w2.drewN n) := fun n => HLK.out _ (HB2.out.block mb HW.out.map.lt).symm
  obtain ⟨hb, hhb⟩ : ∃ hb, hb = Wh.hasId S id := ⟨_, rfl⟩
  rw [← hhb] at lk
  have HHB := Lib.hid hhb
  have i1 : ∀ i, w2.cell? ⟨w.heap.size, i, none⟩ = (#[.int .i64 id, .int .i64 a] : Array Value)[i]? := HI2.out.cells
  have cm : w2.cell? ⟨g, 257, none⟩ = some (.map (some mb)) := N2.out.cm.1
  clear hhb HLK
  cases hb with
  | true =>
    go_quiet (fail)
    go_wp2_with fail
    go_ret
    have e1 : er = 150 := by rw [HE.out]; unfold Wh.insE; rw [if_pos ⟨by simp only; omega, by simp only; omega, by simp only; omega⟩, if_pos HHB.out.symm]
    have e2 : Wh.insS now S ⟨id, a⟩ = S := by unfold Wh.insS; rw [← HE.out, e1, if_neg (by decide)]
    rw [e2, e1]
    exact ⟨rfl, WTo.bel H.out (bel_drewN HB2.out _)⟩
  | false =>
    go_quiet (fail)
    go_upto_region 6 with (fail)
    have N3 := Lib.hid (N2.out.bel (bel_drewN (Below.refl _ _) nq))
    have HB3 := Lib.hid (bel_drewN HB2.out nq)
    have HI3 := Lib.hid (HI2.out.drewN nq)
    clear N2 HB2 HI2 lk cm i1
    generalize w2.drewN nq = w3 at *
    have i1 : ∀ i, w3.cell? ⟨w.heap.size, i, none⟩ = (#[.int .i64 id, .int .i64 a] : Array Value)[i]? := HI3.out.cells
    have cm : w3.cell? ⟨g, 257, none⟩ = some (.map (some mb)) := N3.out.cm.1
    have HSZ : Hid (Maps.size D = S.length) := Lib.hid HM.out.size
    by_cases b4 : 4096 ≤ S.length
    · have d4 : (4096 : Int) ≤ ((Maps.size D : Nat) : Int) := by rw [HSZ.out]; omega
      go_wp2_with (at_len; refine wpList_len_own _ rfl _ 73 rfl 3 2 Try.underlying73 _ mb _ D rfl N3.out.map ?_)
      go_ret
      have e1 : er = 3 := by rw [HE.out]; unfold Wh.insE; rw [if_pos ⟨by simp only; omega, by simp only; omega, by simp only; omega⟩, ← HHB.out, if_neg (by decide), if_pos b4]
      have e2 : Wh.insS now S ⟨id, a⟩ = S := by unfold Wh.insS; rw [← HE.out, e1, if_neg (by decide)]
      rw [e2, e1]
      exact ⟨rfl, WTo.bel H.out HB3.out⟩
    · have d4 : ¬ (4096 : Int) ≤ ((Maps.size D : Nat) : Int) := by rw [HSZ.out]; omega
      have e1 : er = 0 := by rw [HE.out]; unfold Wh.insE; rw [if_pos ⟨by simp only; omega, by simp only; omega, by simp only; omega⟩, ← HHB.out, if_neg (by decide), if_neg b4]
      have HE2 : Hid (Wh.insS now S ⟨id, a⟩ = Wh.ins ⟨id, a⟩ S) := Lib.hid (by unfold Wh.insS; rw [← HE.out, e1, if_pos rfl])
      have HEE := Lib.hid e1
      clear e1
      go_wp2_with (at_len; refine wpList_len_own _ rfl _ 73 rfl 3 2 Try.underlying73 _ mb _ D rfl N3.out.map ?_)
      go_still_tail 8, (by kernel_rfl)
      change wpList _ _ _ _ _ w3.drew
      have N4 := Lib.hid (N3.out.bel (bel_drew (Below.refl _ _)))
      have HB4 := Lib.hid (bel_drew HB3.out)
      have HI4 := Lib.hid (HI3.out.bel (bel_drew (Below.refl _ _)))
      clear N3 HB3 HI3 i1 cm d4
      generalize w3.drew = w4 at *
      go_wp2_with (at_mapUpdate; refine wpList_mapUpdate_own _ rfl _ _ _ 73 rfl 3 2 kLaw Try.underlying73 _ mb _ D rfl N4.out.map (by have := HSZ.out; unfold maxLen; omega) _ _ (kI id) rfl rfl (keyOf_int_mk Try.underlying3 (wfI hid0 hid1)) (.lit (.int .i64 a)) [] (plainElem_int Try.underlying2 (wfI (by omega) (by omega))) ?_; intro w5 hown5 hg5; have N5 := Lib.hid (N4.out.setm hg5 hown5); have HT5 : Hid (Turn (WB g mb pv) w w5) := Lib.hid ((Turn.bel HB4.out).trans (Turn.grown hg5) (fun b e => .inl (.inr (.inl (by injection e with e; exact e.symm))))); have HI5 : Hid (Blk w5 w.heap.size 31 #[.int .i64 id, .int .i64 a]) := Lib.hid ((hg5.block _ HI4.out.lt (fun e => by injection e with e; have := HW.out.map.lt; omega)).trans HI4.out); have i5 : ∀ i, w5.cell? ⟨w.heap.size, i, none⟩ = (#[.int .i64 id, .int .i64 a] : Array Value)[i]? := HI5.out.cells; clear hown5 hg5)
      refine (put_calls N5 n0 n1 ⟨id, a⟩ (by simp only; omega) (by simp only; omega) (by have h5 := (HV.out.slots _ (Wh.slot_lt now a)).length_eq; have h6 := List.length_filter_le (fun i : Itm => decide (Wh.slot now i.at_ = Wh.slot now a)) S; have h7 := H.out.len; simp only at h5 h6 ⊢; omega)).mono ?_
      rintro e w6 ⟨rfl, hp⟩
      have HP := Lib.hid hp
      clear hp i5
      go_wp2_with fail
      go_ret
      rw [HEE.out, HE2.out]
      refine ⟨rfl, ?_⟩
      obtain ⟨v, k1, k2, k3⟩ := HP.out
      have hhf := Wh.hasId_false HHB.out.symm
      exact ⟨updV pv (Wh.slot now a) v, ⟨⟨_, _, k1, HV.out.put (i := ⟨id, a⟩) hhf ⟨by simp only; omega, by simp only; omega, by simp only; omega⟩, HM.out.put (HW.out.map.tidy kLaw) ⟨id, a⟩ hhf⟩, by rw [Wh.len_ins]; omega, n0, n1, fun x hx => by
        rcases List.mem_cons.1 ((Wh.ins_perm _ S).subset hx) with e | e
        · subst e; exact ⟨hid0, hid1⟩
        · exact H.out.wf x e⟩,
        HT5.out.trans k2 (fun b e => .inl e), WB_upd (Wh.slot_lt now a) (fun b e => (k3 b e).imp (fun h => h) (Nat.le_trans HT5.out.size))⟩
end Go.Proofs.Ytheocdfccdpmbaa
