/-
  Contract: an item is taken out of the reference of a wheel.
  Conditions: the reference holds R, no two with one id.
-/
import Derived.Test.YtheocdfccdpmbaaWhR
namespace Go.Proofs.Ytheocdfccdpmbaa
open Go.RowKit Go.Maps
set_option linter.unusedVariables false
set_option linter.unusedSimpArgs false
set_option maxHeartbeats 8000000

set_option maxRecDepth 20000 in
theorem rcancel_calls {base rg : Nat} {rn : Int} {v : Value} {R : List Itm} {w : World} (H : Hid (RfS base rg rn v R w)) (hs : Hid (R.Pairwise (fun a b => a.id ≠ b.id))) (hl : R.length ≤ 4096) (id : Int) :
    Calls Try.prog 37 #[.pointer (some ⟨rg, 0, none⟩), .int .i64 id] w fun e w' => e = .returned (.bool (Wh.hasId R id)) ∧ RTo base rg v w rn (Wh.del id R) w' := by
  have HL := Lib.hid hl
  obtain ⟨er, her⟩ : ∃ er, er = Wh.hasId R id := ⟨_, rfl⟩
  rw [← her]
  have HE := Lib.hid her
  obtain ⟨A, cap, rfl, hcap, hcap2, hR, hA⟩ := H.out.own.form
  have HCP := Lib.hid hcap
  have HRD0 := Lib.hid hR
  have hA3 : ∀ b off sp, A = some ⟨b, off, sp⟩ → sp = none := fun b off sp e => (hA b off sp e).2.2
  have HA3 := Lib.hid hA3
  have c0 : w.cell? ⟨rg, 1, none⟩ = some (.slice A R.length cap) := H.out.blk.cells 1
  have f0 : w.frozen? ⟨rg, 1, none⟩ = false := H.out.blk.free 1
  clear hcap hcap2 hA hA3 hR her hl
  go_enter Try.func37, Try.ntmps37
  go_wp2_with fail
  go_loopg [5] R.length (fun n v5 W => W = w ∧ ∃ (k : Nat), v5 = .int .i64 k ∧ n + k = R.length ∧ Hid (∀ j, j < k → (R.getD j default).id ≠ id))
  case atStart => exact ⟨rfl, 0, rfl, rfl, Lib.hid (fun j hj => absurd hj (Nat.not_lt_zero _))⟩
  case round =>
    obtain ⟨rfl, k, rfl, hnk, HI⟩ := hrel
    have HN := Lib.hid hnk
    by_cases hk : k < R.length
    · have hki : (k : Int) < (R.length : Int) := by omega
      obtain ⟨n, rfl⟩ : ∃ n, gk = n + 1 := ⟨gk - 1, by omega⟩
      obtain ⟨b, off, hAe, hbl, e0, e1⟩ := HRD0.out.itm k hk
      obtain ⟨⟨xid, xa⟩, hx⟩ : ∃ x, x = R.getD k default := ⟨_, rfl⟩
      rw [← hx] at e0 e1
      have HX := Lib.hid hx
      have HAE := Lib.hid hAe
      have hk2 : (k : Int) + 1 ≤ 9223372036854775807 := by have := HL.out; omega
      clear hx hbl hnk hAe e1
      have c0b : wr.cell? ⟨rg, 1, none⟩ = some (.slice (some ⟨b, off, none⟩) R.length cap) := by rw [← HAE.out]; exact c0
      by_cases hxi : xid = id
      · have hb : (xid == id) = true := by simpa using hxi
        have HER : Hid (er = true) := Lib.hid (by
          rw [HE.out]
          exact List.any_eq_true.2 ⟨⟨xid, xa⟩, by rw [HX.out]; have e : R.getD k default = R[k] := by { simp [List.getD, hk] }; rw [e]; exact List.getElem_mem hk, by simpa using hxi⟩)
        have HDE : Hid (Wh.del id R = R.take k ++ R.drop (k + 1)) := Lib.hid (by
          have := Wh.del_at hs.out hk
          rwa [← HX.out, hxi] at this)
        have HK := Lib.hid hk
        clear hxi
        clear c0
        go_upto_region 5 with (fail)
        have c0 : wr.cell? ⟨rg, 1, none⟩ = some (.slice A R.length cap) := H.out.blk.cells 1
        clear c0b e0
        have HLIT := Lib.hid (OwnL.lit (L := layW) (e := 31) wr wr.heap.size (Nat.le_refl _) [] (by simp) #[] rfl)
        have HRD : Hid (RdL layW (wr.alloc (.cells #[] 31)) A R) := Lib.hid (HRD0.out.bel (bel_new (Below.refl wr.heap.size wr) _))
        have c1 : ∀ i, (wr.alloc (.cells #[] 31)).cell? ⟨rg, i, none⟩ = (#[.int .i64 rn, .slice A R.length cap] : Array Value)[i]? := (H.out.blk.alloc _).cells
        have hm1 : ([] : List Itm).length + (R.drop (k + 1)).length ≤ maxLen := by have := HL.out; unfold maxLen; simp; omega
        have hm2 : (([] : List Itm).length + (R.drop (k + 1)).length) * 16 ≤ 140737488355328 := by have := HL.out; simp; omega
        have hbn := Lib.hid (bel_new (Below.refl wr.heap.size wr) (.cells #[] 31))
        have hkl : k + 1 ≤ R.length := hk
        go_upto_region 6 with (first
          | (refine wpList_from (L := layW) (t := 22) (e := 31) Try.underlying22 (by kernel_rfl) infoW rfl (.tmp 30) (.tmp 32) rfl A R.length cap R rfl (k + 1) rfl rfl hkl HCP.out HRD.out HA3.out ?_; intro A2 hA2; have HA2 := Lib.hid hA2; clear hA2)
          | (at_builtin; refine wpList_appO (L := layW) 22 _ 16 Try.underlying22 infoW rfl rfl (.tmp 26) (.tmp 33) rfl wr.heap.size _ [] rfl HLIT.out A2 (R.length - (k + 1)) (cap - (k + 1)) (R.drop (k + 1)) rfl (by simp) HA2.out hm1 hm2 (by simp) ?_; intro v1 w5 ho1 hg1 h31; have hb5 := Lib.hid (OwnL.grown HLIT.out hbn.out (by simp) hg1); rw [List.nil_append] at ho1; obtain ⟨A4, cp4, rfl, -, -, hr4, hl4⟩ := ho1.form; have HR4 := Lib.hid hr4; have HL4 := Lib.hid hl4; clear ho1 hg1 h31 hr4 hl4))
        have N5 := Lib.hid (H.out.bel hb5.out)
        have HB5 := Lib.hid hb5.out
        have HFR : Hid (∀ b, b = rg ∨ (Value.slice A R.length cap).ownBlock = some b → b < wr.heap.size) := Lib.hid (fun b hb => by
          rcases hb with rfl | e
          · exact H.out.blk.lt
          · exact H.out.own.lt2 b e)
        have HOC := Lib.hid (N5.out.own.cut0 (i := k) (by omega))
        clear c1 hb5 hbn HRD HLIT HA2 hm1 hm2 c0 f0
        have c0 : w5.cell? ⟨rg, 1, none⟩ = some (.slice A R.length cap) := N5.out.blk.cells 1
        have f0 : w5.frozen? ⟨rg, 1, none⟩ = false := N5.out.blk.free 1
        have hkc : k ≤ cap := by have := HCP.out; omega
        have HM7 : Hid ((R.take k).length + (R.drop (k + 1)).length ≤ maxLen) := Lib.hid (by have := HL.out; unfold maxLen; simp; omega)
        have HN7 : Hid (((R.take k).length + (R.drop (k + 1)).length) * 16 ≤ 140737488355328) := Lib.hid (by have := HL.out; simp; omega)
        have HB7 : Hid (base ≤ w5.heap.size) := Lib.hid (by have := N5.out.lo; have := N5.out.blk.lt; omega)
        go_wp2_with (first
          | (refine wpList_to (L := layW) (t := 22) (e := 31) Try.underlying22 (by kernel_rfl) infoW rfl (.tmp 39) (.tmp 40) rfl A R.length cap rfl k rfl hkc HA3.out ?_)
          | (at_builtin; refine wpList_appO (L := layW) 22 _ 16 Try.underlying22 infoW rfl rfl (.tmp 41) (.tmp 42) rfl base (.slice A k cap) (R.take k) rfl HOC.out A4 (R.length - (k + 1)) cp4 (R.drop (k + 1)) rfl (by simp) HR4.out HM7.out HN7.out HB7.out ?_; intro v8 w8 ho8 hg8 h38; obtain ⟨Y, hY⟩ : ∃ Y, Y = R.take k ++ R.drop (k + 1) := ⟨_, rfl⟩; rw [← hY] at ho8; have HYY := Lib.hid hY; clear hY; obtain ⟨A8, cp8, rfl, -, -, -, -⟩ := ho8.form; have hg9 : w5.grownBy w8 (Value.slice A R.length cap).ownBlock := by { rwa [ownB A k R.length cap cap] at hg8 }; have h39 := h38; rw [ownB A k R.length cap cap] at h39; have HP8 := Lib.hid (N5.out.put ho8 (.grown hg9) (fun b e => by rcases h39 with h | h; exact .inl (by rw [← e, h]); exact .inr (by rw [h] at e; injection e with e; omega))); have HZ8 : Hid (∀ b, (Value.slice A8 Y.length cp8).ownBlock = some b → (Value.slice A R.length cap).ownBlock = some b ∨ w5.heap.size ≤ b) := Lib.hid (fun b e => by rcases h39 with h | h; exact .inl (by rw [← e, h]); exact .inr (by rw [h] at e; injection e with e; omega)); have hbl := N5.out.blk.turn (.grown hg9) (fun e => N5.out.ne rg e rfl); have c0 : w8.cell? ⟨rg, 1, none⟩ = some (.slice A R.length cap) := hbl.cells 1; have f0 : w8.frozen? ⟨rg, 1, none⟩ = false := hbl.free 1; clear ho8 hg8 h38 hbl hg9 h39))
        go_ret
        rw [HER.out, HDE.out, ← HYY.out]
        exact ⟨rfl, .slice A8 Y.length cp8, HP8.out.1, (Turn.bel HB5.out).trans HP8.out.2 (fun b e => .inl e), fun b e => (HZ8.out b e).imp (fun h => h) (Nat.le_trans HB5.out.size)⟩
      · have hb : (xid == id) = false := by simpa using hxi
        have HXI : Hid ((R.getD k default).id ≠ id) := Lib.hid (by rw [← HX.out]; exact hxi)
        clear hxi
        clear c0
        go_wp2_with fail
        go_roundg n
        case rel => exact ⟨rfl, k + 1, by go_num, by have := HN.out; omega, Lib.hid (fun j hj => by
          rcases Nat.lt_succ_iff_lt_or_eq.1 hj with h | rfl
          · exact HI.out j h
          · exact HXI.out)⟩
        case measure => omega
    · have hki : ¬ (k : Int) < (R.length : Int) := by omega
      have HH : Hid (Wh.hasId R id = false) := Lib.hid (List.any_eq_false.2 fun x hx => by
        obtain ⟨j, hj, e⟩ := List.mem_iff_getElem.1 hx
        have := HI.out j (by have := HN.out; omega)
        have e2 : R.getD j default = R[j] := by simp [List.getD, hj]
        rw [e2, e] at this
        simpa using this)
      go_wp2_with fail
      go_ret
      rw [HE.out, HH.out, Wh.del_none HH.out]
      exact ⟨rfl, RTo.refl H.out (Below.refl _ _)⟩
end Go.Proofs.Ytheocdfccdpmbaa
