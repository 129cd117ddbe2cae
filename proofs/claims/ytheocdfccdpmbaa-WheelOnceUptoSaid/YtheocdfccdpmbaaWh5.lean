/-
  Contract: the places of higher rings that now has come into are put anew: the walk.
  Conditions: the wheel's places hold S; now has just gone on by one.
-/
import Derived.Test.YtheocdfccdpmbaaWh4
namespace Go.Proofs.Ytheocdfccdpmbaa
open Go.RowKit Go.Maps
set_option linter.unusedVariables false
set_option linter.unusedSimpArgs false
set_option maxHeartbeats 20000000

/-- the loop's state: ring k is next -/
structure CS (w : World) (g mb : Nat) (pv : Nat → Value) (m1 now : Int) (S : List Itm) (D : DataW Unit) (C : Nat → List Itm) (k : Nat) (q : Nat → List Itm) (W : World) : Prop where
  to : WhlTo w g mb pv m1 q D W
  slots : Wh.Slots (Wh.mid (k + 1) now) q S
  rest : Wh.rest m1 k q = C

set_option maxRecDepth 100000 in
theorem cascade_calls {g mb : Nat} {pv : Nat → Value} {now : Int} {pl : Nat → List Itm} {D : DataW Unit} {S : List Itm} {w : World} (H : Hid (Whl g mb (now + 1) pv pl D w)) (HV : Hid (Wh.Inv now pl S)) (hS : S.length ≤ 4096) (n0 : 0 ≤ now) (n1 : now + 1 ≤ 226157759) :
    Calls Try.prog 57 #[.pointer (some ⟨g, 0, none⟩)] w fun e w' => e = .returned (.tuple #[]) ∧ WhlTo w g mb pv (now + 1) (Wh.cascade (now + 1) pl) D w' := by
  obtain ⟨C, hC⟩ : ∃ C, C = Wh.cascade (now + 1) pl := ⟨_, rfl⟩
  rw [← hC]
  have HT := Lib.hid (fun x (hx : x ∈ S) => HV.out.times x hx)
  obtain ⟨m1, hm1⟩ : ∃ m1, m1 = now + 1 := ⟨_, rfl⟩
  have HCS : Hid (CS w g mb pv m1 now S D C 3 pl w) := Lib.hid (by
    rw [hm1]
    exact ⟨⟨pv, H.out, .refl _ _, fun b e => .inl e⟩, fun j hj => (HV.out.slots j hj).trans (List.Perm.of_eq (List.filter_congr fun i hi => by rw [Wh.mid4])), by rw [hC]; rfl⟩)
  rw [← hm1]
  have HM := Lib.hid hm1
  have m0 : 0 ≤ m1 := by omega
  have m2 : m1 ≤ 226157759 := by omega
  clear hm1 hC H HV
  go_enter Try.func57, Try.ntmps57
  go_wp2_with fail
  go_loopg [2] 4 (fun n v2 W => ∃ (k : Nat) (q : Nat → List Itm), v2 = .int .i64 k ∧ k < 4 ∧ n = k + 1 ∧ Hid (CS w g mb pv m1 now S D C k q W))
  case atStart => exact ⟨3, pl, rfl, by omega, by omega, HCS⟩
  case round =>
    clear HCS
    obtain ⟨k, q, rfl, hk, rfl, HI⟩ := hrel
    rcases (by omega : k = 0 ∨ k = 1 ∨ k = 2 ∨ k = 3) with rfl | rfl | rfl | rfl
    · go_wp2_with fail
      go_end0
      refine ⟨rfl, ?_⟩
      rw [← HI.out.rest]
      exact HI.out.to
    · obtain ⟨pv1, hW1, hT1, hc1⟩ := HI.out.to
      have N := Lib.hid hW1
      have HT1 := Lib.hid hT1
      have HC1 := Lib.hid hc1
      clear hW1 hT1 hc1
      have c0 : wr.cell? ⟨g, 0, none⟩ = some (.int .i64 m1) := N.out.c0.1
      have hb1 : bits BinOp.and IntKind.i64 m1 63 = m1 % 64 := bits_low 6 (by omega) m1 m0 m2
      by_cases c : m1 % 64 = 0
      · have b1 : (m1 % 64 != 0) = false := by simp [c]
        have HMZ : Hid (m1 % Wh.pw 1 = 0) := Lib.hid c
        clear c
        have HPL := Lib.hid (fun W => place_calls 1 (by omega) m1 m0 m2 W)
        have hp4 := Wh.place_lt 1 m1
        obtain ⟨j, hjk⟩ : ∃ j, j = 64 * 1 + Wh.place 1 m1 := ⟨_, rfl⟩
        generalize hpp : Wh.place 1 m1 = p at *
        have hj : j < 256 := by omega
        have HJ := Lib.hid hjk
        have HPP := Lib.hid hpp
        clear hjk hpp
        go_wp2_with fail
        go_quiet (fail)
        go_upto_region 4 with (fail)
        have N2 := Lib.hid (N.out.bel (bel_drewN (Below.refl _ _) nq))
        have HT2 : Hid (Turn (WB g mb pv) w (wr.drewN nq)) := Lib.hid (HT1.out.trans (.bel (B := fun _ => False) (bel_drewN (Below.refl _ _) nq)) (fun b e => e.elim))
        clear N HT1 c0 hb1 b1
        generalize wr.drewN nq = w2 at *
        have c0 : w2.cell? ⟨g, 0, none⟩ = some (.int .i64 m1) := N2.out.c0.1
        go_quiet ((go_at_call 53; exact quiet_of_eq (HPL.out _)))
        go_upto_region 5 with (fail)
        rw [show 65 + p = j + 1 from by have := HJ.out; omega]
        have N3 := Lib.hid (N2.out.bel (bel_drewN (Below.refl _ _) nq))
        have HT3 : Hid (Turn (WB g mb pv) w (w2.drewN nq)) := Lib.hid (HT2.out.trans (.bel (B := fun _ => False) (bel_drewN (Below.refl _ _) nq)) (fun b e => e.elim))
        clear N2 HT2 c0 HPL
        generalize w2.drewN nq = w3 at *
        obtain ⟨l, hl⟩ : ∃ l, l = q j := ⟨_, rfl⟩
        obtain ⟨A, cap, hpv, -, -, -, -⟩ := (N3.out.places j hj).form
        obtain ⟨cj, fj⟩ := N3.out.cp j hj
        obtain ⟨o1, o2, o3, o4, o5⟩ := N3.out.out hj
        rw [hpv] at cj o2 o5
        rw [← hl] at cj o2 o5
        have HSD : Hid (Side w g mb pv m1 (Wh.part m1 1 q 0) D (.slice A l.length cap) l (w3.setCell ⟨g, j + 1, none⟩ (.slice none 0 0))) := Lib.hid ⟨updV pv1 j (.slice none 0 0), (by
          have e : Wh.part m1 1 q 0 = Wh.upd q j [] := by unfold Wh.part; rw [HPP.out, ← HJ.out]; rfl
          rw [e]; exact o1), HT3.out.trans o3 HC1.out, fun b e => HC1.out b (o4 b e), o2, o5⟩
        have HL := Lib.hid hl
        have hll : l.length ≤ 4096 := by rw [hl]; exact Nat.le_trans (Wh.slots_len HI.out.slots hj) hS
        have HLM : Hid (∀ x ∈ l, now < x.at_ ∧ x.at_ ≤ 226157759) := Lib.hid fun x hx => by rw [hl] at hx; have := HT.out x (Wh.slots_mem HI.out.slots hj hx); omega
        have HQL : Hid (∀ j, j < 256 → (q j).length ≤ 4096) := Lib.hid fun j hj => Nat.le_trans (Wh.slots_len HI.out.slots hj) hS
        clear hl hpv o1 o2 o3 o4 o5
        go_upto_region 7 with (fail)
        clear cj fj N3 HT3 HC1
        generalize w3.setCell ⟨g, j + 1, none⟩ (.slice none 0 0) = w4 at *
        go_wp2_with fail
        go_loopg [40] l.length (fun n v40 W => ∃ m : Nat, v40 = .int .i64 m ∧ n + m = l.length ∧ Hid (Side w g mb pv m1 (Wh.part m1 1 q m) D (.slice A l.length cap) l W))
        case atStart => exact ⟨0, rfl, rfl, HSD⟩
        case round =>
          clear HSD
          obtain ⟨m, rfl, hm, HD⟩ := hrel
          by_cases hml : m < l.length
          · have hmi : (m : Int) < (l.length : Int) := by omega
            obtain ⟨n, rfl⟩ : ∃ n, gk = n + 1 := ⟨gk - 1, by omega⟩
            obtain ⟨pv2, k1, k2, k3, k4, k5⟩ := HD.out
            have P1 := Lib.hid k1
            have P2 := Lib.hid k2
            have P3 := Lib.hid k3
            have P4 := Lib.hid k4
            have P5 := Lib.hid k5
            obtain ⟨A', cap', hsl, -, -, hrd, -⟩ := k4.form
            injection hsl with hA' hln hc'
            subst hA'
            subst hc'
            clear hln
            obtain ⟨rb, ro, hrA, hrl, hrc⟩ := hrd m hml
            obtain ⟨x, hx⟩ : ∃ x, x = l.getD m default := ⟨_, rfl⟩
            have hxm : x ∈ l := by rw [hx]; have e : l.getD m default = l[m] := by simp [List.getD, hml]
                                   rw [e]; exact List.getElem_mem hml
            rw [← hx] at hrc
            have HX := Lib.hid hx
            obtain ⟨xid, xa⟩ := x
            obtain ⟨xt0, xt1⟩ := HLM.out _ hxm
            simp only at xt0 xt1
            have r0 : wr.cell? ⟨rb, ro + m * 2, none⟩ = some (.int .i64 xid) := hrc 0 _ rfl
            have r1 : wr.cell? ⟨rb, ro + m * 2 + 1, none⟩ = some (.int .i64 xa) := hrc 1 _ rfl
            have hwm : IntKind.i64.wrap (m : Int) = (m : Int) := IntWalk.i64_in _ (by omega)
            have HRA := Lib.hid hrA
            clear k1 k2 k3 k4 k5 hrd hrc hx hxm hrA HD
            rw [HRA.out]
            go_upto_region 10 with (fail)
            have hbn := bel_new (Below.refl wr.heap.size wr) (.cells #[.int .i64 xid, .int .i64 xa] 31)
            have R1 := Lib.hid (P1.out.bel hbn)
            have R2 : Hid (Turn (WB g mb pv) w (wr.alloc (.cells #[.int .i64 xid, .int .i64 xa] 31))) := Lib.hid (P2.out.trans (.bel (B := fun _ => False) hbn) (fun b e => e.elim))
            have R4 := Lib.hid (P4.out.kept hbn)
            have RI := Lib.hid (Blk.new wr 31 #[.int .i64 xid, .int .i64 xa])
            have HPS : Hid (∀ jj, Wh.goes m1 1 ⟨xid, xa⟩ = jj → Wh.add (Wh.part m1 1 q m) jj ⟨xid, xa⟩ = Wh.part m1 1 q (m + 1)) := Lib.hid (fun jj e => by
              rw [Wh.part_step (by rw [HPP.out, ← HJ.out, ← HL.out]; exact hml), HPP.out, ← HJ.out, ← HL.out, ← HX.out, e])
            have HPLN : Hid (∀ jj, jj < 256 → (Wh.part m1 1 q m jj).length ≤ 1000000) := Lib.hid (fun jj hjj => by
              have h1 := Wh.part_len m1 1 q m jj
              have h2 := HQL.out jj hjj
              rw [HPP.out, ← HJ.out] at h1
              have h3 := HQL.out j hj
              omega)
            have HGI : Hid (¬ WB g mb pv2 wr.heap.size) := Lib.hid (fun e => by have := P1.out.lt _ e; omega)
            clear hbn r0 r1 P1 P2 P4 HX
            generalize hgw : wr.heap.size = gi at *
            generalize wr.alloc (.cells #[.int .i64 xid, .int .i64 xa] 31) = w5 at *
            have i1 : ∀ i, w5.cell? ⟨gi, i, none⟩ = (#[.int .i64 xid, .int .i64 xa] : Array Value)[i]? := RI.out.cells
            have c0 : w5.cell? ⟨g, 0, none⟩ = some (.int .i64 m1) := R1.out.c0.1
            by_cases c2 : xa / 64 = m1 / 64
            · have b2 : (xa / 64 == m1 / 64) = true := by simp [c2]
              have HG : Hid (Wh.goes m1 1 ⟨xid, xa⟩ = Wh.slot m1 xa) := Lib.hid (by have cp : xa / Wh.pw 1 = m1 / Wh.pw 1 := c2; unfold Wh.goes; rw [if_pos cp])
              clear c2
              go_quiet (fail)
              go_upto_region 11 with (fail)
              have Q1 := Lib.hid (R1.out.bel (bel_drewN (Below.refl _ _) nq))
              have Q2 : Hid (Turn (WB g mb pv) w (w5.drewN nq)) := Lib.hid (R2.out.trans (.bel (B := fun _ => False) (bel_drewN (Below.refl _ _) nq)) (fun b e => e.elim))
              have Q4 := Lib.hid (R4.out.kept (bel_drewN (Below.refl w5.heap.size w5) nq))
              have QI := Lib.hid (RI.out.drewN nq)
              clear R1 R2 R4 RI i1 c0
              generalize w5.drewN nq = w6 at *
              have i1 : ∀ i, w6.cell? ⟨gi, i, none⟩ = (#[.int .i64 xid, .int .i64 xa] : Array Value)[i]? := QI.out.cells
              go_wp2_with fail
              refine (put_calls Q1 m0 m2 ⟨xid, xa⟩ (by simp only; omega) (by simp only; omega) (HPLN.out _ (Wh.slot_lt m1 xa))).mono ?_
              rintro e w7 ⟨rfl, hp⟩
              have HS7 := Lib.hid (side_put Q1.out Q2.out P3.out Q4.out P5.out (Wh.slot_lt m1 xa) hp)
              rw [HPS.out _ HG.out] at HS7
              clear hp i1
              go_wp2_with fail
              rw [← HRA.out]
              go_roundg n
              case rel => exact ⟨m + 1, by go_num, by omega, HS7⟩
              case measure => omega
            · have b2 : (xa / 64 == m1 / 64) = false := by simp [c2]
              have HG : Hid (Wh.goes m1 1 ⟨xid, xa⟩ = j) := Lib.hid (by have cp : ¬ xa / Wh.pw 1 = m1 / Wh.pw 1 := c2; unfold Wh.goes; rw [if_neg cp, HPP.out, ← HJ.out])
              clear c2
              go_quiet (fail)
              go_upto_region 12 with (fail)
              have Q1 := Lib.hid (R1.out.bel (bel_drewN (Below.refl _ _) nq))
              have Q2 : Hid (Turn (WB g mb pv) w (w5.drewN nq)) := Lib.hid (R2.out.trans (.bel (B := fun _ => False) (bel_drewN (Below.refl _ _) nq)) (fun b e => e.elim))
              have Q4 := Lib.hid (R4.out.kept (bel_drewN (Below.refl w5.heap.size w5) nq))
              have QI := Lib.hid (RI.out.drewN nq)
              clear R1 R2 R4 RI i1 c0
              generalize w5.drewN nq = W at *
              have iW : ∀ i, W.cell? ⟨gi, i, none⟩ = (#[.int .i64 xid, .int .i64 xa] : Array Value)[i]? := QI.out.cells
              have hgl := Q1.out.g_lt
              have hil := QI.out.lt
              obtain ⟨cj, fj⟩ := Q1.out.cp j hj
              go_region_law (first
                | (refine step_appAt 22 _ 16 Try.underlying22 infoW rfl rfl (.tmp 63) (.tmp 65) rfl 0 _ (Wh.part m1 1 q m j) rfl ((Q1.out.places j hj).kept (bel_drew (bel_new (Below.refl _ W) (.cells #[.int .i64 xid, .int .i64 xa] 31)))) ⟨W.heap.size, 0, none⟩ 1 1 [⟨xid, xa⟩] rfl rfl (rdL_lit W _ _ (by simp [maxLen]) _ rfl) (by have := HPLN.out j hj; simp [maxLen]; omega) (by have := HPLN.out j hj; simp; omega) (Nat.zero_le _) ?_
                   intro v1 w7 ho1 hg1 h31
                   obtain ⟨A1, cp1, rfl, -, -, -, -⟩ := ho1.form
                   have hbn := bel_drew (bel_new (Below.refl W.heap.size W) (.cells #[.int .i64 xid, .int .i64 xa] 31))
                   have HPT := Lib.hid ((Q1.out.bel hbn).app hbn Q1.out.lt hj ho1 hg1 h31)
                   obtain ⟨cj3, fj3⟩ := (Q1.out.bel hbn).appc hj hg1
                   clear hbn ho1 hg1 h31))
              all_goals
                have h9 := HPT.out
                rw [List.length_append, List.length_singleton] at h9
                have HS7 := Lib.hid (side_put Q1.out Q2.out P3.out Q4.out P5.out hj h9)
                rw [HPS.out _ HG.out] at HS7
                clear h9 HPT cj fj iW cj3 fj3
                go_wp2_with fail
                rw [← HRA.out]
                go_roundg n
                case rel => exact ⟨m + 1, by go_num, by omega, HS7⟩
                case measure => omega
          · have hmi : ¬ (m : Int) < (l.length : Int) := by omega
            have hme : m = l.length := by omega
            have HE : Hid (WhlTo w g mb pv m1 (Wh.pass m1 1 q) D wr) := Lib.hid (by
              have h1 := HD.out.to
              rw [hme, HL.out, HJ.out] at h1
              rw [← HPP.out] at h1
              rwa [Wh.part_end HMZ.out] at h1)
            clear hme HD
            go_wp2_with fail
            go_roundg 1
            case rel =>
              refine ⟨0, Wh.pass m1 1 q, rfl, by omega, rfl, Lib.hid ⟨HE.out, ?_, HI.out.rest⟩⟩
              have := Wh.pass_slots (k := 1) (by omega) (by omega) (fun i hi => (HT.out i hi).1) HI.out.slots
              rw [← HM.out] at this
              exact this
            case measure => omega
      · have b1 : (m1 % 64 != 0) = true := by simp [c]
        have HQ : Hid (Wh.pass m1 1 q = q) := Lib.hid (by have cp : m1 % Wh.pw 1 ≠ 0 := c; unfold Wh.pass; rw [if_pos cp])
        clear c
        go_wp2_with fail
        go_quiet (fail)
        go_wp2_with fail
        go_roundg 1
        case rel =>
          refine ⟨0, q, rfl, by omega, rfl, Lib.hid ⟨WhlTo.drewN ⟨pv1, N.out, HT1.out, HC1.out⟩ (bel_drewN (Below.refl _ _) nq), ?_, ?_⟩⟩
          · have := Wh.pass_slots (k := 1) (by omega) (by omega) (fun i hi => (HT.out i hi).1) HI.out.slots
            rw [← HM.out, HQ.out] at this
            exact this
          · have := HI.out.rest
            rw [show Wh.rest m1 1 q = Wh.rest m1 0 (Wh.pass m1 1 q) from rfl, HQ.out] at this
            exact this
        case measure => omega
    · obtain ⟨pv1, hW1, hT1, hc1⟩ := HI.out.to
      have N := Lib.hid hW1
      have HT1 := Lib.hid hT1
      have HC1 := Lib.hid hc1
      clear hW1 hT1 hc1
      have c0 : wr.cell? ⟨g, 0, none⟩ = some (.int .i64 m1) := N.out.c0.1
      have hb1 : bits BinOp.and IntKind.i64 m1 4095 = m1 % 4096 := bits_low 12 (by omega) m1 m0 m2
      by_cases c : m1 % 4096 = 0
      · have b1 : (m1 % 4096 != 0) = false := by simp [c]
        have HMZ : Hid (m1 % Wh.pw 2 = 0) := Lib.hid c
        clear c
        have HPL := Lib.hid (fun W => place_calls 2 (by omega) m1 m0 m2 W)
        have hp4 := Wh.place_lt 2 m1
        obtain ⟨j, hjk⟩ : ∃ j, j = 64 * 2 + Wh.place 2 m1 := ⟨_, rfl⟩
        generalize hpp : Wh.place 2 m1 = p at *
        have hj : j < 256 := by omega
        have HJ := Lib.hid hjk
        have HPP := Lib.hid hpp
        clear hjk hpp
        go_wp2_with fail
        go_quiet (fail)
        go_upto_region 4 with (fail)
        have N2 := Lib.hid (N.out.bel (bel_drewN (Below.refl _ _) nq))
        have HT2 : Hid (Turn (WB g mb pv) w (wr.drewN nq)) := Lib.hid (HT1.out.trans (.bel (B := fun _ => False) (bel_drewN (Below.refl _ _) nq)) (fun b e => e.elim))
        clear N HT1 c0 hb1 b1
        generalize wr.drewN nq = w2 at *
        have c0 : w2.cell? ⟨g, 0, none⟩ = some (.int .i64 m1) := N2.out.c0.1
        go_quiet ((go_at_call 53; exact quiet_of_eq (HPL.out _)))
        go_upto_region 5 with (fail)
        rw [show 129 + p = j + 1 from by have := HJ.out; omega]
        have N3 := Lib.hid (N2.out.bel (bel_drewN (Below.refl _ _) nq))
        have HT3 : Hid (Turn (WB g mb pv) w (w2.drewN nq)) := Lib.hid (HT2.out.trans (.bel (B := fun _ => False) (bel_drewN (Below.refl _ _) nq)) (fun b e => e.elim))
        clear N2 HT2 c0 HPL
        generalize w2.drewN nq = w3 at *
        obtain ⟨l, hl⟩ : ∃ l, l = q j := ⟨_, rfl⟩
        obtain ⟨A, cap, hpv, -, -, -, -⟩ := (N3.out.places j hj).form
        obtain ⟨cj, fj⟩ := N3.out.cp j hj
        obtain ⟨o1, o2, o3, o4, o5⟩ := N3.out.out hj
        rw [hpv] at cj o2 o5
        rw [← hl] at cj o2 o5
        have HSD : Hid (Side w g mb pv m1 (Wh.part m1 2 q 0) D (.slice A l.length cap) l (w3.setCell ⟨g, j + 1, none⟩ (.slice none 0 0))) := Lib.hid ⟨updV pv1 j (.slice none 0 0), (by
          have e : Wh.part m1 2 q 0 = Wh.upd q j [] := by unfold Wh.part; rw [HPP.out, ← HJ.out]; rfl
          rw [e]; exact o1), HT3.out.trans o3 HC1.out, fun b e => HC1.out b (o4 b e), o2, o5⟩
        have HL := Lib.hid hl
        have hll : l.length ≤ 4096 := by rw [hl]; exact Nat.le_trans (Wh.slots_len HI.out.slots hj) hS
        have HLM : Hid (∀ x ∈ l, now < x.at_ ∧ x.at_ ≤ 226157759) := Lib.hid fun x hx => by rw [hl] at hx; have := HT.out x (Wh.slots_mem HI.out.slots hj hx); omega
        have HQL : Hid (∀ j, j < 256 → (q j).length ≤ 4096) := Lib.hid fun j hj => Nat.le_trans (Wh.slots_len HI.out.slots hj) hS
        clear hl hpv o1 o2 o3 o4 o5
        go_upto_region 7 with (fail)
        clear cj fj N3 HT3 HC1
        generalize w3.setCell ⟨g, j + 1, none⟩ (.slice none 0 0) = w4 at *
        go_wp2_with fail
        go_loopg [40] l.length (fun n v40 W => ∃ m : Nat, v40 = .int .i64 m ∧ n + m = l.length ∧ Hid (Side w g mb pv m1 (Wh.part m1 2 q m) D (.slice A l.length cap) l W))
        case atStart => exact ⟨0, rfl, rfl, HSD⟩
        case round =>
          clear HSD
          obtain ⟨m, rfl, hm, HD⟩ := hrel
          by_cases hml : m < l.length
          · have hmi : (m : Int) < (l.length : Int) := by omega
            obtain ⟨n, rfl⟩ : ∃ n, gk = n + 1 := ⟨gk - 1, by omega⟩
            obtain ⟨pv2, k1, k2, k3, k4, k5⟩ := HD.out
            have P1 := Lib.hid k1
            have P2 := Lib.hid k2
            have P3 := Lib.hid k3
            have P4 := Lib.hid k4
            have P5 := Lib.hid k5
            obtain ⟨A', cap', hsl, -, -, hrd, -⟩ := k4.form
            injection hsl with hA' hln hc'
            subst hA'
            subst hc'
            clear hln
            obtain ⟨rb, ro, hrA, hrl, hrc⟩ := hrd m hml
            obtain ⟨x, hx⟩ : ∃ x, x = l.getD m default := ⟨_, rfl⟩
            have hxm : x ∈ l := by rw [hx]; have e : l.getD m default = l[m] := by simp [List.getD, hml]
                                   rw [e]; exact List.getElem_mem hml
            rw [← hx] at hrc
            have HX := Lib.hid hx
            obtain ⟨xid, xa⟩ := x
            obtain ⟨xt0, xt1⟩ := HLM.out _ hxm
            simp only at xt0 xt1
            have r0 : wr.cell? ⟨rb, ro + m * 2, none⟩ = some (.int .i64 xid) := hrc 0 _ rfl
            have r1 : wr.cell? ⟨rb, ro + m * 2 + 1, none⟩ = some (.int .i64 xa) := hrc 1 _ rfl
            have hwm : IntKind.i64.wrap (m : Int) = (m : Int) := IntWalk.i64_in _ (by omega)
            have HRA := Lib.hid hrA
            clear k1 k2 k3 k4 k5 hrd hrc hx hxm hrA HD
            rw [HRA.out]
            go_upto_region 10 with (fail)
            have hbn := bel_new (Below.refl wr.heap.size wr) (.cells #[.int .i64 xid, .int .i64 xa] 31)
            have R1 := Lib.hid (P1.out.bel hbn)
            have R2 : Hid (Turn (WB g mb pv) w (wr.alloc (.cells #[.int .i64 xid, .int .i64 xa] 31))) := Lib.hid (P2.out.trans (.bel (B := fun _ => False) hbn) (fun b e => e.elim))
            have R4 := Lib.hid (P4.out.kept hbn)
            have RI := Lib.hid (Blk.new wr 31 #[.int .i64 xid, .int .i64 xa])
            have HPS : Hid (∀ jj, Wh.goes m1 2 ⟨xid, xa⟩ = jj → Wh.add (Wh.part m1 2 q m) jj ⟨xid, xa⟩ = Wh.part m1 2 q (m + 1)) := Lib.hid (fun jj e => by
              rw [Wh.part_step (by rw [HPP.out, ← HJ.out, ← HL.out]; exact hml), HPP.out, ← HJ.out, ← HL.out, ← HX.out, e])
            have HPLN : Hid (∀ jj, jj < 256 → (Wh.part m1 2 q m jj).length ≤ 1000000) := Lib.hid (fun jj hjj => by
              have h1 := Wh.part_len m1 2 q m jj
              have h2 := HQL.out jj hjj
              rw [HPP.out, ← HJ.out] at h1
              have h3 := HQL.out j hj
              omega)
            have HGI : Hid (¬ WB g mb pv2 wr.heap.size) := Lib.hid (fun e => by have := P1.out.lt _ e; omega)
            clear hbn r0 r1 P1 P2 P4 HX
            generalize hgw : wr.heap.size = gi at *
            generalize wr.alloc (.cells #[.int .i64 xid, .int .i64 xa] 31) = w5 at *
            have i1 : ∀ i, w5.cell? ⟨gi, i, none⟩ = (#[.int .i64 xid, .int .i64 xa] : Array Value)[i]? := RI.out.cells
            have c0 : w5.cell? ⟨g, 0, none⟩ = some (.int .i64 m1) := R1.out.c0.1
            by_cases c2 : xa / 4096 = m1 / 4096
            · have b2 : (xa / 4096 == m1 / 4096) = true := by simp [c2]
              have HG : Hid (Wh.goes m1 2 ⟨xid, xa⟩ = Wh.slot m1 xa) := Lib.hid (by have cp : xa / Wh.pw 2 = m1 / Wh.pw 2 := c2; unfold Wh.goes; rw [if_pos cp])
              clear c2
              go_quiet (fail)
              go_upto_region 11 with (fail)
              have Q1 := Lib.hid (R1.out.bel (bel_drewN (Below.refl _ _) nq))
              have Q2 : Hid (Turn (WB g mb pv) w (w5.drewN nq)) := Lib.hid (R2.out.trans (.bel (B := fun _ => False) (bel_drewN (Below.refl _ _) nq)) (fun b e => e.elim))
              have Q4 := Lib.hid (R4.out.kept (bel_drewN (Below.refl w5.heap.size w5) nq))
              have QI := Lib.hid (RI.out.drewN nq)
              clear R1 R2 R4 RI i1 c0
              generalize w5.drewN nq = w6 at *
              have i1 : ∀ i, w6.cell? ⟨gi, i, none⟩ = (#[.int .i64 xid, .int .i64 xa] : Array Value)[i]? := QI.out.cells
              go_wp2_with fail
              refine (put_calls Q1 m0 m2 ⟨xid, xa⟩ (by simp only; omega) (by simp only; omega) (HPLN.out _ (Wh.slot_lt m1 xa))).mono ?_
              rintro e w7 ⟨rfl, hp⟩
              have HS7 := Lib.hid (side_put Q1.out Q2.out P3.out Q4.out P5.out (Wh.slot_lt m1 xa) hp)
              rw [HPS.out _ HG.out] at HS7
              clear hp i1
              go_wp2_with fail
              rw [← HRA.out]
              go_roundg n
              case rel => exact ⟨m + 1, by go_num, by omega, HS7⟩
              case measure => omega
            · have b2 : (xa / 4096 == m1 / 4096) = false := by simp [c2]
              have HG : Hid (Wh.goes m1 2 ⟨xid, xa⟩ = j) := Lib.hid (by have cp : ¬ xa / Wh.pw 2 = m1 / Wh.pw 2 := c2; unfold Wh.goes; rw [if_neg cp, HPP.out, ← HJ.out])
              clear c2
              go_quiet (fail)
              go_upto_region 12 with (fail)
              have Q1 := Lib.hid (R1.out.bel (bel_drewN (Below.refl _ _) nq))
              have Q2 : Hid (Turn (WB g mb pv) w (w5.drewN nq)) := Lib.hid (R2.out.trans (.bel (B := fun _ => False) (bel_drewN (Below.refl _ _) nq)) (fun b e => e.elim))
              have Q4 := Lib.hid (R4.out.kept (bel_drewN (Below.refl w5.heap.size w5) nq))
              have QI := Lib.hid (RI.out.drewN nq)
              clear R1 R2 R4 RI i1 c0
              generalize w5.drewN nq = W at *
              have iW : ∀ i, W.cell? ⟨gi, i, none⟩ = (#[.int .i64 xid, .int .i64 xa] : Array Value)[i]? := QI.out.cells
              have hgl := Q1.out.g_lt
              have hil := QI.out.lt
              obtain ⟨cj, fj⟩ := Q1.out.cp j hj
              go_region_law (first
                | (refine step_appAt 22 _ 16 Try.underlying22 infoW rfl rfl (.tmp 63) (.tmp 65) rfl 0 _ (Wh.part m1 2 q m j) rfl ((Q1.out.places j hj).kept (bel_drew (bel_new (Below.refl _ W) (.cells #[.int .i64 xid, .int .i64 xa] 31)))) ⟨W.heap.size, 0, none⟩ 1 1 [⟨xid, xa⟩] rfl rfl (rdL_lit W _ _ (by simp [maxLen]) _ rfl) (by have := HPLN.out j hj; simp [maxLen]; omega) (by have := HPLN.out j hj; simp; omega) (Nat.zero_le _) ?_
                   intro v1 w7 ho1 hg1 h31
                   obtain ⟨A1, cp1, rfl, -, -, -, -⟩ := ho1.form
                   have hbn := bel_drew (bel_new (Below.refl W.heap.size W) (.cells #[.int .i64 xid, .int .i64 xa] 31))
                   have HPT := Lib.hid ((Q1.out.bel hbn).app hbn Q1.out.lt hj ho1 hg1 h31)
                   obtain ⟨cj3, fj3⟩ := (Q1.out.bel hbn).appc hj hg1
                   clear hbn ho1 hg1 h31))
              all_goals
                have h9 := HPT.out
                rw [List.length_append, List.length_singleton] at h9
                have HS7 := Lib.hid (side_put Q1.out Q2.out P3.out Q4.out P5.out hj h9)
                rw [HPS.out _ HG.out] at HS7
                clear h9 HPT cj fj iW cj3 fj3
                go_wp2_with fail
                rw [← HRA.out]
                go_roundg n
                case rel => exact ⟨m + 1, by go_num, by omega, HS7⟩
                case measure => omega
          · have hmi : ¬ (m : Int) < (l.length : Int) := by omega
            have hme : m = l.length := by omega
            have HE : Hid (WhlTo w g mb pv m1 (Wh.pass m1 2 q) D wr) := Lib.hid (by
              have h1 := HD.out.to
              rw [hme, HL.out, HJ.out] at h1
              rw [← HPP.out] at h1
              rwa [Wh.part_end HMZ.out] at h1)
            clear hme HD
            go_wp2_with fail
            go_roundg 2
            case rel =>
              refine ⟨1, Wh.pass m1 2 q, rfl, by omega, rfl, Lib.hid ⟨HE.out, ?_, HI.out.rest⟩⟩
              have := Wh.pass_slots (k := 2) (by omega) (by omega) (fun i hi => (HT.out i hi).1) HI.out.slots
              rw [← HM.out] at this
              exact this
            case measure => omega
      · have b1 : (m1 % 4096 != 0) = true := by simp [c]
        have HQ : Hid (Wh.pass m1 2 q = q) := Lib.hid (by have cp : m1 % Wh.pw 2 ≠ 0 := c; unfold Wh.pass; rw [if_pos cp])
        clear c
        go_wp2_with fail
        go_quiet (fail)
        go_wp2_with fail
        go_roundg 2
        case rel =>
          refine ⟨1, q, rfl, by omega, rfl, Lib.hid ⟨WhlTo.drewN ⟨pv1, N.out, HT1.out, HC1.out⟩ (bel_drewN (Below.refl _ _) nq), ?_, ?_⟩⟩
          · have := Wh.pass_slots (k := 2) (by omega) (by omega) (fun i hi => (HT.out i hi).1) HI.out.slots
            rw [← HM.out, HQ.out] at this
            exact this
          · have := HI.out.rest
            rw [show Wh.rest m1 2 q = Wh.rest m1 1 (Wh.pass m1 2 q) from rfl, HQ.out] at this
            exact this
        case measure => omega
    · obtain ⟨pv1, hW1, hT1, hc1⟩ := HI.out.to
      have N := Lib.hid hW1
      have HT1 := Lib.hid hT1
      have HC1 := Lib.hid hc1
      clear hW1 hT1 hc1
      have c0 : wr.cell? ⟨g, 0, none⟩ = some (.int .i64 m1) := N.out.c0.1
      have hb1 : bits BinOp.and IntKind.i64 m1 262143 = m1 % 262144 := bits_low 18 (by omega) m1 m0 m2
      by_cases c : m1 % 262144 = 0
      · have b1 : (m1 % 262144 != 0) = false := by simp [c]
        have HMZ : Hid (m1 % Wh.pw 3 = 0) := Lib.hid c
        clear c
        have HPL := Lib.hid (fun W => place_calls 3 (by omega) m1 m0 m2 W)
        have hp4 := Wh.place_lt 3 m1
        obtain ⟨j, hjk⟩ : ∃ j, j = 64 * 3 + Wh.place 3 m1 := ⟨_, rfl⟩
        generalize hpp : Wh.place 3 m1 = p at *
        have hj : j < 256 := by omega
        have HJ := Lib.hid hjk
        have HPP := Lib.hid hpp
        clear hjk hpp
        go_wp2_with fail
        go_quiet (fail)
        go_upto_region 4 with (fail)
        have N2 := Lib.hid (N.out.bel (bel_drewN (Below.refl _ _) nq))
        have HT2 : Hid (Turn (WB g mb pv) w (wr.drewN nq)) := Lib.hid (HT1.out.trans (.bel (B := fun _ => False) (bel_drewN (Below.refl _ _) nq)) (fun b e => e.elim))
        clear N HT1 c0 hb1 b1
        generalize wr.drewN nq = w2 at *
        have c0 : w2.cell? ⟨g, 0, none⟩ = some (.int .i64 m1) := N2.out.c0.1
        go_quiet ((go_at_call 53; exact quiet_of_eq (HPL.out _)))
        go_upto_region 5 with (fail)
        rw [show 193 + p = j + 1 from by have := HJ.out; omega]
        have N3 := Lib.hid (N2.out.bel (bel_drewN (Below.refl _ _) nq))
        have HT3 : Hid (Turn (WB g mb pv) w (w2.drewN nq)) := Lib.hid (HT2.out.trans (.bel (B := fun _ => False) (bel_drewN (Below.refl _ _) nq)) (fun b e => e.elim))
        clear N2 HT2 c0 HPL
        generalize w2.drewN nq = w3 at *
        obtain ⟨l, hl⟩ : ∃ l, l = q j := ⟨_, rfl⟩
        obtain ⟨A, cap, hpv, -, -, -, -⟩ := (N3.out.places j hj).form
        obtain ⟨cj, fj⟩ := N3.out.cp j hj
        obtain ⟨o1, o2, o3, o4, o5⟩ := N3.out.out hj
        rw [hpv] at cj o2 o5
        rw [← hl] at cj o2 o5
        have HSD : Hid (Side w g mb pv m1 (Wh.part m1 3 q 0) D (.slice A l.length cap) l (w3.setCell ⟨g, j + 1, none⟩ (.slice none 0 0))) := Lib.hid ⟨updV pv1 j (.slice none 0 0), (by
          have e : Wh.part m1 3 q 0 = Wh.upd q j [] := by unfold Wh.part; rw [HPP.out, ← HJ.out]; rfl
          rw [e]; exact o1), HT3.out.trans o3 HC1.out, fun b e => HC1.out b (o4 b e), o2, o5⟩
        have HL := Lib.hid hl
        have hll : l.length ≤ 4096 := by rw [hl]; exact Nat.le_trans (Wh.slots_len HI.out.slots hj) hS
        have HLM : Hid (∀ x ∈ l, now < x.at_ ∧ x.at_ ≤ 226157759) := Lib.hid fun x hx => by rw [hl] at hx; have := HT.out x (Wh.slots_mem HI.out.slots hj hx); omega
        have HQL : Hid (∀ j, j < 256 → (q j).length ≤ 4096) := Lib.hid fun j hj => Nat.le_trans (Wh.slots_len HI.out.slots hj) hS
        clear hl hpv o1 o2 o3 o4 o5
        go_upto_region 7 with (fail)
        clear cj fj N3 HT3 HC1
        generalize w3.setCell ⟨g, j + 1, none⟩ (.slice none 0 0) = w4 at *
        go_wp2_with fail
        go_loopg [40] l.length (fun n v40 W => ∃ m : Nat, v40 = .int .i64 m ∧ n + m = l.length ∧ Hid (Side w g mb pv m1 (Wh.part m1 3 q m) D (.slice A l.length cap) l W))
        case atStart => exact ⟨0, rfl, rfl, HSD⟩
        case round =>
          clear HSD
          obtain ⟨m, rfl, hm, HD⟩ := hrel
          by_cases hml : m < l.length
          · have hmi : (m : Int) < (l.length : Int) := by omega
            obtain ⟨n, rfl⟩ : ∃ n, gk = n + 1 := ⟨gk - 1, by omega⟩
            obtain ⟨pv2, k1, k2, k3, k4, k5⟩ := HD.out
            have P1 := Lib.hid k1
            have P2 := Lib.hid k2
            have P3 := Lib.hid k3
            have P4 := Lib.hid k4
            have P5 := Lib.hid k5
            obtain ⟨A', cap', hsl, -, -, hrd, -⟩ := k4.form
            injection hsl with hA' hln hc'
            subst hA'
            subst hc'
            clear hln
            obtain ⟨rb, ro, hrA, hrl, hrc⟩ := hrd m hml
            obtain ⟨x, hx⟩ : ∃ x, x = l.getD m default := ⟨_, rfl⟩
            have hxm : x ∈ l := by rw [hx]; have e : l.getD m default = l[m] := by simp [List.getD, hml]
                                   rw [e]; exact List.getElem_mem hml
            rw [← hx] at hrc
            have HX := Lib.hid hx
            obtain ⟨xid, xa⟩ := x
            obtain ⟨xt0, xt1⟩ := HLM.out _ hxm
            simp only at xt0 xt1
            have r0 : wr.cell? ⟨rb, ro + m * 2, none⟩ = some (.int .i64 xid) := hrc 0 _ rfl
            have r1 : wr.cell? ⟨rb, ro + m * 2 + 1, none⟩ = some (.int .i64 xa) := hrc 1 _ rfl
            have hwm : IntKind.i64.wrap (m : Int) = (m : Int) := IntWalk.i64_in _ (by omega)
            have HRA := Lib.hid hrA
            clear k1 k2 k3 k4 k5 hrd hrc hx hxm hrA HD
            rw [HRA.out]
            go_upto_region 10 with (fail)
            have hbn := bel_new (Below.refl wr.heap.size wr) (.cells #[.int .i64 xid, .int .i64 xa] 31)
            have R1 := Lib.hid (P1.out.bel hbn)
            have R2 : Hid (Turn (WB g mb pv) w (wr.alloc (.cells #[.int .i64 xid, .int .i64 xa] 31))) := Lib.hid (P2.out.trans (.bel (B := fun _ => False) hbn) (fun b e => e.elim))
            have R4 := Lib.hid (P4.out.kept hbn)
            have RI := Lib.hid (Blk.new wr 31 #[.int .i64 xid, .int .i64 xa])
            have HPS : Hid (∀ jj, Wh.goes m1 3 ⟨xid, xa⟩ = jj → Wh.add (Wh.part m1 3 q m) jj ⟨xid, xa⟩ = Wh.part m1 3 q (m + 1)) := Lib.hid (fun jj e => by
              rw [Wh.part_step (by rw [HPP.out, ← HJ.out, ← HL.out]; exact hml), HPP.out, ← HJ.out, ← HL.out, ← HX.out, e])
            have HPLN : Hid (∀ jj, jj < 256 → (Wh.part m1 3 q m jj).length ≤ 1000000) := Lib.hid (fun jj hjj => by
              have h1 := Wh.part_len m1 3 q m jj
              have h2 := HQL.out jj hjj
              rw [HPP.out, ← HJ.out] at h1
              have h3 := HQL.out j hj
              omega)
            have HGI : Hid (¬ WB g mb pv2 wr.heap.size) := Lib.hid (fun e => by have := P1.out.lt _ e; omega)
            clear hbn r0 r1 P1 P2 P4 HX
            generalize hgw : wr.heap.size = gi at *
            generalize wr.alloc (.cells #[.int .i64 xid, .int .i64 xa] 31) = w5 at *
            have i1 : ∀ i, w5.cell? ⟨gi, i, none⟩ = (#[.int .i64 xid, .int .i64 xa] : Array Value)[i]? := RI.out.cells
            have c0 : w5.cell? ⟨g, 0, none⟩ = some (.int .i64 m1) := R1.out.c0.1
            by_cases c2 : xa / 262144 = m1 / 262144
            · have b2 : (xa / 262144 == m1 / 262144) = true := by simp [c2]
              have HG : Hid (Wh.goes m1 3 ⟨xid, xa⟩ = Wh.slot m1 xa) := Lib.hid (by have cp : xa / Wh.pw 3 = m1 / Wh.pw 3 := c2; unfold Wh.goes; rw [if_pos cp])
              clear c2
              go_quiet (fail)
              go_upto_region 11 with (fail)
              have Q1 := Lib.hid (R1.out.bel (bel_drewN (Below.refl _ _) nq))
              have Q2 : Hid (Turn (WB g mb pv) w (w5.drewN nq)) := Lib.hid (R2.out.trans (.bel (B := fun _ => False) (bel_drewN (Below.refl _ _) nq)) (fun b e => e.elim))
              have Q4 := Lib.hid (R4.out.kept (bel_drewN (Below.refl w5.heap.size w5) nq))
              have QI := Lib.hid (RI.out.drewN nq)
              clear R1 R2 R4 RI i1 c0
              generalize w5.drewN nq = w6 at *
              have i1 : ∀ i, w6.cell? ⟨gi, i, none⟩ = (#[.int .i64 xid, .int .i64 xa] : Array Value)[i]? := QI.out.cells
              go_wp2_with fail
              refine (put_calls Q1 m0 m2 ⟨xid, xa⟩ (by simp only; omega) (by simp only; omega) (HPLN.out _ (Wh.slot_lt m1 xa))).mono ?_
              rintro e w7 ⟨rfl, hp⟩
              have HS7 := Lib.hid (side_put Q1.out Q2.out P3.out Q4.out P5.out (Wh.slot_lt m1 xa) hp)
              rw [HPS.out _ HG.out] at HS7
              clear hp i1
              go_wp2_with fail
              rw [← HRA.out]
              go_roundg n
              case rel => exact ⟨m + 1, by go_num, by omega, HS7⟩
              case measure => omega
            · have b2 : (xa / 262144 == m1 / 262144) = false := by simp [c2]
              have HG : Hid (Wh.goes m1 3 ⟨xid, xa⟩ = j) := Lib.hid (by have cp : ¬ xa / Wh.pw 3 = m1 / Wh.pw 3 := c2; unfold Wh.goes; rw [if_neg cp, HPP.out, ← HJ.out])
              clear c2
              go_quiet (fail)
              go_upto_region 12 with (fail)
              have Q1 := Lib.hid (R1.out.bel (bel_drewN (Below.refl _ _) nq))
              have Q2 : Hid (Turn (WB g mb pv) w (w5.drewN nq)) := Lib.hid (R2.out.trans (.bel (B := fun _ => False) (bel_drewN (Below.refl _ _) nq)) (fun b e => e.elim))
              have Q4 := Lib.hid (R4.out.kept (bel_drewN (Below.refl w5.heap.size w5) nq))
              have QI := Lib.hid (RI.out.drewN nq)
              clear R1 R2 R4 RI i1 c0
              generalize w5.drewN nq = W at *
              have iW : ∀ i, W.cell? ⟨gi, i, none⟩ = (#[.int .i64 xid, .int .i64 xa] : Array Value)[i]? := QI.out.cells
              have hgl := Q1.out.g_lt
              have hil := QI.out.lt
              obtain ⟨cj, fj⟩ := Q1.out.cp j hj
              go_region_law (first
                | (refine step_appAt 22 _ 16 Try.underlying22 infoW rfl rfl (.tmp 63) (.tmp 65) rfl 0 _ (Wh.part m1 3 q m j) rfl ((Q1.out.places j hj).kept (bel_drew (bel_new (Below.refl _ W) (.cells #[.int .i64 xid, .int .i64 xa] 31)))) ⟨W.heap.size, 0, none⟩ 1 1 [⟨xid, xa⟩] rfl rfl (rdL_lit W _ _ (by simp [maxLen]) _ rfl) (by have := HPLN.out j hj; simp [maxLen]; omega) (by have := HPLN.out j hj; simp; omega) (Nat.zero_le _) ?_
                   intro v1 w7 ho1 hg1 h31
                   obtain ⟨A1, cp1, rfl, -, -, -, -⟩ := ho1.form
                   have hbn := bel_drew (bel_new (Below.refl W.heap.size W) (.cells #[.int .i64 xid, .int .i64 xa] 31))
                   have HPT := Lib.hid ((Q1.out.bel hbn).app hbn Q1.out.lt hj ho1 hg1 h31)
                   obtain ⟨cj3, fj3⟩ := (Q1.out.bel hbn).appc hj hg1
                   clear hbn ho1 hg1 h31))
              all_goals
                have h9 := HPT.out
                rw [List.length_append, List.length_singleton] at h9
                have HS7 := Lib.hid (side_put Q1.out Q2.out P3.out Q4.out P5.out hj h9)
                rw [HPS.out _ HG.out] at HS7
                clear h9 HPT cj fj iW cj3 fj3
                go_wp2_with fail
                rw [← HRA.out]
                go_roundg n
                case rel => exact ⟨m + 1, by go_num, by omega, HS7⟩
                case measure => omega
          · have hmi : ¬ (m : Int) < (l.length : Int) := by omega
            have hme : m = l.length := by omega
            have HE : Hid (WhlTo w g mb pv m1 (Wh.pass m1 3 q) D wr) := Lib.hid (by
              have h1 := HD.out.to
              rw [hme, HL.out, HJ.out] at h1
              rw [← HPP.out] at h1
              rwa [Wh.part_end HMZ.out] at h1)
            clear hme HD
            go_wp2_with fail
            go_roundg 3
            case rel =>
              refine ⟨2, Wh.pass m1 3 q, rfl, by omega, rfl, Lib.hid ⟨HE.out, ?_, HI.out.rest⟩⟩
              have := Wh.pass_slots (k := 3) (by omega) (by omega) (fun i hi => (HT.out i hi).1) HI.out.slots
              rw [← HM.out] at this
              exact this
            case measure => omega
      · have b1 : (m1 % 262144 != 0) = true := by simp [c]
        have HQ : Hid (Wh.pass m1 3 q = q) := Lib.hid (by have cp : m1 % Wh.pw 3 ≠ 0 := c; unfold Wh.pass; rw [if_pos cp])
        clear c
        go_wp2_with fail
        go_quiet (fail)
        go_wp2_with fail
        go_roundg 3
        case rel =>
          refine ⟨2, q, rfl, by omega, rfl, Lib.hid ⟨WhlTo.drewN ⟨pv1, N.out, HT1.out, HC1.out⟩ (bel_drewN (Below.refl _ _) nq), ?_, ?_⟩⟩
          · have := Wh.pass_slots (k := 3) (by omega) (by omega) (fun i hi => (HT.out i hi).1) HI.out.slots
            rw [← HM.out, HQ.out] at this
            exact this
          · have := HI.out.rest
            rw [show Wh.rest m1 3 q = Wh.rest m1 2 (Wh.pass m1 3 q) from rfl, HQ.out] at this
            exact this
        case measure => omega
end Go.Proofs.Ytheocdfccdpmbaa
