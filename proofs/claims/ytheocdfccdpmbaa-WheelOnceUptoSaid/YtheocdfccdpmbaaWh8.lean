/-
  Contract: one minute of a wheel.
  Conditions: the wheel holds S; the minute is of the calendar.
-/
import Derived.Test.YtheocdfccdpmbaaWh7
namespace Go.Proofs.Ytheocdfccdpmbaa
open Go.RowKit Go.Maps
set_option linter.unusedVariables false
set_option linter.unusedSimpArgs false
set_option maxHeartbeats 8000000

/-- a wheel as it became, and a row that is answered -/
def WhRow (w : World) (g mb : Nat) (pv : Nat → Value) (now : Int) (S : List Itm) (v : Value) (l : List Itm) (w' : World) : Prop :=
  ∃ pv', WhS g mb pv' now S w' ∧ Turn (WB g mb pv) w w' ∧ (∀ b, WB g mb pv' b → WB g mb pv b ∨ w.heap.size ≤ b) ∧ OwnL layW 31 w' 0 v l ∧ (∀ b, v.ownBlock = some b → ¬ WB g mb pv' b) ∧ ∀ b, v.ownBlock = some b → WB g mb pv b ∨ w.heap.size ≤ b
def due (t : Int) (S : List Itm) : List Itm := S.filter fun x => decide (x.at_ = t)
theorem due_len {t : Int} {S : List Itm} : (due t S).length ≤ S.length := List.length_filter_le _ _
/-- while what is due is struck from the map -/
structure Strike (w : World) (g mb : Nat) (pv pv2 : Nat → Value) (n1 : Int) (q : Nat → List Itm) (D : DataW Unit) (v : Value) (T S : List Itm) (m : Nat) (W : World) : Prop where
  whl : Whl g mb n1 pv2 q D W
  turn : Turn (WB g mb pv) w W
  own : OwnL layW 31 W 0 v T
  map : MapIs D (Wh.dels (T.take m) S)
theorem dels_snoc {T S : List Itm} {m : Nat} (hm : m < T.length) : Wh.dels (T.take (m + 1)) S = Wh.del (T.getD m default).id (Wh.dels (T.take m) S) := by
  unfold Wh.dels
  rw [List.take_succ_eq_append_getElem hm, List.foldl_append]
  simp [List.getD, hm]
set_option maxRecDepth 20000 in
theorem tick_calls {g mb : Nat} {pv : Nat → Value} {now : Int} {S : List Itm} {w : World} (H : Hid (WhS g mb pv now S w)) (n1 : now + 1 ≤ 226157759) :
    Calls Try.prog 41 #[.pointer (some ⟨g, 0, none⟩)] w fun e w' => ∃ A cap, e = .returned (.slice A (due (now + 1) S).length cap) ∧ WhRow w g mb pv (now + 1) (Wh.past (now + 1) S) (.slice A (due (now + 1) S).length cap) (due (now + 1) S) w' := by
  obtain ⟨pl, D, hW, hV, hM⟩ := H.out.ex
  have n0 := H.out.t0
  have hS := H.out.len
  have HW := Lib.hid hW
  have HV := Lib.hid hV
  have HM := Lib.hid hM
  obtain ⟨hp, hi2⟩ := hV.tick
  have HP := Lib.hid hp
  have HI2 := Lib.hid hi2
  obtain ⟨m1, hm1⟩ : ∃ m1, m1 = now + 1 := ⟨_, rfl⟩
  have HCA := Lib.hid (fun W (h : Hid (Whl g mb (now + 1) pv pl D W)) => cascade_calls h HV hS n0 n1)
  rw [← hm1] at HP HI2 HCA n1 ⊢
  have m0 : 0 ≤ m1 := by omega
  have hw1 : IntKind.i64.wrap (now + 1) = m1 := by rw [IntWalk.i64_in _ (by omega), hm1]
  have HMZ := Lib.hid hm1
  generalize hC : Wh.cascade m1 pl = C at *
  obtain ⟨T, hT⟩ : ∃ T, T = due m1 S := ⟨_, rfl⟩
  have HTL : Hid (T.length ≤ 4096) := Lib.hid (by rw [hT]; exact Nat.le_trans due_len hS)
  change Hid ((C (Wh.place 0 m1)).Perm (due m1 S)) at HP
  rw [← hT] at HP ⊢
  have HTD := Lib.hid hT
  clear hT
  have c0 : w.cell? ⟨g, 0, none⟩ = some (.int .i64 now) := hW.c0.1
  have f0 : w.frozen? ⟨g, 0, none⟩ = false := hW.c0.2
  have HW1 : Hid (Whl g mb m1 pv pl D (w.setCell ⟨g, 0, none⟩ (.int .i64 m1))) := Lib.hid (hW.set0 m1)
  have HT1 : Hid (Turn (WB g mb pv) w (w.setCell ⟨g, 0, none⟩ (.int .i64 m1))) := Lib.hid ((Turn.set w ⟨g, 0, none⟩ (.int .i64 m1)).mono fun b _ e => .inl e)
  clear hW hV hM hp hi2 hm1 hC
  go_enter Try.func41, Try.ntmps41
  go_upto_region 2 with (fail)
  clear c0 f0
  generalize w.setCell ⟨g, 0, none⟩ (.int .i64 m1) = w1 at *
  go_wp2_with fail
  refine (HCA.out w1 HW1).mono ?_
  rintro e w2 ⟨rfl, hto⟩
  obtain ⟨pv1, k1, k2, k3⟩ := hto
  have K1 := Lib.hid k1
  have K2 : Hid (Turn (WB g mb pv) w w2) := Lib.hid (HT1.out.trans k2 (fun b e => .inl e))
  have K3 : Hid (∀ b, WB g mb pv1 b → WB g mb pv b ∨ w.heap.size ≤ b) := Lib.hid (fun b hb => (k3 b hb).imp (fun h => h) (Nat.le_trans HT1.out.size))
  clear k1 k2 k3 HCA HW1 HT1
  have c0 : w2.cell? ⟨g, 0, none⟩ = some (.int .i64 m1) := K1.out.c0.1
  have HPL := Lib.hid (fun W => place_calls 0 (by omega) m1 m0 n1 W)
  have hp4 := Wh.place_lt 0 m1
  generalize hpp : Wh.place 0 m1 = j at *
  have hj : j < 256 := by omega
  have HPP := Lib.hid hpp
  clear hpp
  go_wp2_with fail
  go_quiet ((go_at_call 53; exact quiet_of_eq (HPL.out _)))
  go_upto_region 4 with (fail)
  rw [show 1 + j = j + 1 from by omega]
  have N3 := Lib.hid (K1.out.bel (bel_drewN (Below.refl _ _) nq))
  have HT3 : Hid (Turn (WB g mb pv) w (w2.drewN nq)) := Lib.hid (K2.out.trans (.bel (B := fun _ => False) (bel_drewN (Below.refl _ _) nq)) (fun b e => e.elim))
  clear K1 K2 c0 HPL
  generalize w2.drewN nq = w3 at *
  obtain ⟨A, cap, hpv, -, -, -, -⟩ := (N3.out.places j hj).form
  obtain ⟨cj, fj⟩ := N3.out.cp j hj
  obtain ⟨o1, o2, o3, o4, o5⟩ := N3.out.out hj
  rw [show (C j).length = T.length from HP.out.length_eq] at hpv
  rw [hpv] at cj o2 o5
  have HA5 : Hid (∀ b, (Value.slice A T.length cap).ownBlock = some b → WB g mb pv b ∨ w.heap.size ≤ b) := Lib.hid (fun b e => K3.out b (.inr (.inr ⟨j, hj, by rw [hpv]; exact e⟩)))
  have O1 := Lib.hid o1
  have O2 := Lib.hid o2
  have O3 : Hid (Turn (WB g mb pv) w (w3.setCell ⟨g, j + 1, none⟩ (.slice none 0 0))) := Lib.hid (HT3.out.trans o3 K3.out)
  have O4 : Hid (∀ b, WB g mb (updV pv1 j (.slice none 0 0)) b → WB g mb pv b ∨ w.heap.size ≤ b) := Lib.hid (fun b e => K3.out b (o4 b e))
  have O5 := Lib.hid o5
  clear hpv o1 o2 o3 o4 o5
  go_upto_region 6 with (fail)
  clear cj fj N3 HT3 K3
  generalize w3.setCell ⟨g, j + 1, none⟩ (.slice none 0 0) = w4 at *
  go_wp2_with fail
  refine (sort_calls O2 (by rw [HP.out.length_eq]; have := HTL.out; omega)).mono ?_
  rintro e w5 ⟨rfl, ⟨T', ht1, ht2, ht3⟩, hg5⟩
  have hTT : T' = T := by
    rw [HTD.out]
    refine Wh.sorted_eq ht2 (H.out.sorted.filter _) (ht1.trans ?_)
    rw [← HTD.out]
    exact HP.out
  subst hTT
  have S1 := Lib.hid (O1.out.turn (.grown hg5) (fun b hb e => O5.out b e hb))
  have S3 : Hid (Turn (WB g mb pv) w w5) := Lib.hid (O3.out.trans (.grown hg5) (fun b e => HA5.out b e))
  have HST : Hid (Strike w g mb pv (updV pv1 j (.slice none 0 0)) m1 (Wh.upd C j []) D (.slice A T'.length cap) T' S 0 w5) := Lib.hid ⟨S1.out, S3.out, ht3, HM.out⟩
  clear ht1 ht2 ht3 hg5 O1 O2 O3 S1 S3
  have htl := HTL.out
  go_wp2_with fail
  go_loopg [35] T'.length (fun n v35 W => ∃ (m : Nat) (D : DataW Unit), v35 = .int .i64 m ∧ n + m = T'.length ∧ Hid (Strike w g mb pv (updV pv1 j (.slice none 0 0)) m1 (Wh.upd C j []) D (.slice A T'.length cap) T' S m W))
  case atStart => exact ⟨0, D, rfl, rfl, HST⟩
  case round =>
    clear HST
    obtain ⟨m, D', rfl, hm, HD⟩ := hrel
    by_cases hml : m < T'.length
    · have hmi : (m : Int) < (T'.length : Int) := by omega
      obtain ⟨n, rfl⟩ : ∃ n, gk = n + 1 := ⟨gk - 1, by omega⟩
      obtain ⟨A', cap', hsl, -, -, hrd, -⟩ := HD.out.own.form
      injection hsl with hA' hln hc'
      subst hA'
      subst hc'
      clear hln
      obtain ⟨rb, ro, hrA, hrl, hrc⟩ := hrd m hml
      obtain ⟨x, hx⟩ : ∃ x, x = T'.getD m default := ⟨_, rfl⟩
      have hxm : x ∈ T' := by
        rw [hx]
        have e : T'.getD m default = T'[m] := by simp [List.getD, hml]
        rw [e]; exact List.getElem_mem hml
      rw [← hx] at hrc
      have HX := Lib.hid hx
      rw [HTD.out] at hxm
      obtain ⟨xt0, xt1⟩ := H.out.wf x (List.mem_filter.1 hxm).1
      obtain ⟨xid, xa⟩ := x
      simp only at xt0 xt1
      have r0 : wr.cell? ⟨rb, ro + m * 2, none⟩ = some (.int .i64 xid) := hrc 0 _ rfl
      have r1 : wr.cell? ⟨rb, ro + m * 2 + 1, none⟩ = some (.int .i64 xa) := hrc 1 _ rfl
      have hwm : IntKind.i64.wrap (m : Int) = (m : Int) := IntWalk.i64_in _ (by omega)
      have HRA := Lib.hid hrA
      clear hrd hrc hx hxm hrA
      rw [HRA.out]
      go_upto_region 10 with (fail)
      have hbn := bel_new (Below.refl wr.heap.size wr) (.cells #[.int .i64 xid, .int .i64 xa] 31)
      have R1 := Lib.hid (HD.out.whl.bel hbn)
      have R2 : Hid (Turn (WB g mb pv) w (wr.alloc (.cells #[.int .i64 xid, .int .i64 xa] 31))) := Lib.hid (HD.out.turn.trans (.bel (B := fun _ => False) hbn) (fun b e => e.elim))
      have R4 := Lib.hid (HD.out.own.kept hbn)
      have RI := Lib.hid (Blk.new wr 31 #[.int .i64 xid, .int .i64 xa])
      have RM := Lib.hid HD.out.map
      have RG : Hid (∀ b, (Value.slice A T'.length cap).ownBlock = some b → b ≠ mb) := Lib.hid (fun b e e2 => O5.out b e (.inr (.inl e2)))
      clear hbn r0 r1 HD
      generalize wr.heap.size = gi at *
      generalize wr.alloc (.cells #[.int .i64 xid, .int .i64 xa] 31) = w6 at *
      have i1 : ∀ i, w6.cell? ⟨gi, i, none⟩ = (#[.int .i64 xid, .int .i64 xa] : Array Value)[i]? := RI.out.cells
      have cm : w6.cell? ⟨g, 257, none⟩ = some (.map (some mb)) := R1.out.cm.1
      go_still_tail 6, (by kernel_rfl)
      change wpList _ _ _ _ _ w6.drew
      have U1 := Lib.hid (R1.out.bel (bel_drew (Below.refl _ _)))
      have U2 : Hid (Turn (WB g mb pv) w w6.drew) := Lib.hid (R2.out.trans (.bel (B := fun _ => False) (bel_drew (Below.refl _ _))) (fun b e => e.elim))
      have U4 := Lib.hid (R4.out.kept (bel_drew (Below.refl w6.heap.size w6)))
      clear R1 R2 R4 RI i1 cm
      generalize w6.drew = w7 at *
      go_wp2_with (at_delete; refine wpList_delete_own _ rfl _ _ 73 3 rfl 2 kLaw Try.underlying73 _ mb _ D' rfl U1.out.map _ (kI xid) rfl (keyOf_int_mk Try.underlying3 (wfI xt0 xt1)) ?_; intro w8 hown8 hturn8; have V1 := Lib.hid (U1.out.setm hturn8.grown hown8); have V2 : Hid (Turn (WB g mb pv) w w8) := Lib.hid (U2.out.trans (.grown hturn8.grown) (fun b e => .inl (.inr (.inl (by injection e with e; exact e.symm))))); have V4 := Lib.hid (U4.out.turn (.grown hturn8.grown) (fun b e e2 => RG.out b e (by injection e2 with e2; exact e2.symm))); clear hown8 hturn8)
      have VS : Hid (Strike w g mb pv (updV pv1 j (.slice none 0 0)) m1 (Wh.upd C j []) (D'.del (kI xid)) (.slice A T'.length cap) T' S (m + 1) w8) := Lib.hid ⟨V1.out, V2.out, V4.out, by
        rw [dels_snoc hml, ← HX.out]
        exact RM.out.del (U1.out.map.tidy kLaw) (Wh.dels_ids H.out.ids _) xid⟩
      clear V1 V2 V4 U1 U2 U4 RM
      rw [← HRA.out]
      go_roundg n
      case rel => exact ⟨m + 1, D'.del (kI xid), by go_num, by omega, VS⟩
      case measure => omega
    · have hmi : ¬ (m : Int) < (T'.length : Int) := by omega
      have hme : m = T'.length := by omega
      have HMM : Hid (MapIs D' (Wh.past m1 S)) := Lib.hid (by
        have h1 := HD.out.map
        rw [hme, List.take_length, Wh.dels_past (now := now) H.out.ids (fun i hi => (H.out.times i hi).1) (by rw [HTD.out, HMZ.out]; exact .refl _), ← HMZ.out] at h1
        exact h1)
      clear hme
      go_wp2_with fail
      go_ret
      exact ⟨A, cap, rfl, updV pv1 j (.slice none 0 0), ⟨⟨_, _, HD.out.whl, HI2.out, HMM.out⟩, Nat.le_trans Wh.len_past hS, m0, n1, fun x hx => H.out.wf x (List.mem_filter.1 hx).1⟩, HD.out.turn, O4.out, HD.out.own, O5.out, HA5.out⟩
end Go.Proofs.Ytheocdfccdpmbaa
