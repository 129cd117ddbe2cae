/-
  Contract: slices.DeleteFunc at the closure of Cancel.
  Conditions: the row is the wheel's own, the closure's variable lies elsewhere.
-/
import Derived.Test.YtheocdfccdpmbaaWhI
namespace Go.Proofs.Ytheocdfccdpmbaa
open Go.RowKit Go.Maps
set_option linter.unusedVariables false
set_option linter.unusedSimpArgs false
set_option maxHeartbeats 8000000

theorem clos_calls (x : Itm) (r : Int) (bx : Nat) (w : World) (hb : bx < w.heap.size) (h : w.cell? ⟨bx, 0, none⟩ = some (.int .i64 r)) :
    Calls Try.prog 55 #[itmV x, .pointer (some ⟨bx, 0, none⟩)] w fun e w' => e = .returned (.bool (x.id == r)) ∧ Below w.heap.size w w' := by
  have hlt := hb
  have HB := Lib.hid (bel_new (Below.refl w.heap.size w) (.cells #[.int .i64 x.id, .int .i64 x.at_] 31))
  have HK := Lib.hid (Blk.new w 31 #[.int .i64 x.id, .int .i64 x.at_])
  go_enter Try.func55, Try.ntmps55
  go_upto_region 1 with (fail)
  have c0 : (w.alloc (.cells #[.int .i64 x.id, .int .i64 x.at_] 31)).cell? ⟨w.heap.size, 0, none⟩ = some (.int .i64 x.id) := HK.out.cells 0
  have c1 : (w.alloc (.cells #[.int .i64 x.id, .int .i64 x.at_] 31)).cell? ⟨bx, 0, none⟩ = some (.int .i64 r) := (HB.out.cell (p := ⟨bx, 0, none⟩) hb).trans h
  clear h HK
  generalize w.alloc (.cells #[.int .i64 x.id, .int .i64 x.at_] 31) = w1 at *
  go_wp2_with fail
  go_ret
  exact ⟨rfl, HB.out⟩
theorem idxf_calls (A : Option Addr) (cap : Nat) (l : List Itm) (bx : Nat) (r : Int) (w : World) (hR : Hid (RdL layW w A l)) (hlen : l.length ≤ 9223372036854775807) (hbx : bx < w.heap.size) (hb : Hid (w.cell? ⟨bx, 0, none⟩ = some (.int .i64 r))) :
    Calls Try.prog 67 #[.slice A l.length cap, .func (.func 55) #[] #[.pointer (some ⟨bx, 0, none⟩)]] w fun e w' =>
      (∃ i : Int, e = .returned (.int .i64 i) ∧ Hid ((i = -1 ∧ Wh.del r l = l) ∨ ∃ k : Nat, i = k ∧ k < l.length ∧ Wh.del r (l.take k) = l.take k ∧ (l.getD k default).id = r)) ∧ Below w.heap.size w w' := by
  have HBX := Lib.hid hbx
  have HB0 := Lib.hid (Below.refl w.heap.size w)
  clear hbx
  go_enter Try.func67, Try.ntmps67
  go_wp2_with fail
  go_loopg [5, 8] l.length (fun g v5 v8 W => ∃ k : Nat, v8 = .int .i64 k ∧ Hid (k + g = l.length ∧ Wh.del r (l.take k) = l.take k) ∧ Hid (Below w.heap.size w W))
  case atStart => exact ⟨0, rfl, Lib.hid ⟨by omega, by simp [Wh.del]⟩, HB0⟩
  case round =>
    clear HB0
    obtain ⟨k, rfl, HI, HB⟩ := hrel
    by_cases hlt : k < l.length
    · have hl : (k : Int) < (l.length : Int) := by omega
      have hg : 0 < gk := by have := HI.out.1; omega
      obtain ⟨b, off, hAe, hbl, c0, c1⟩ := (hR.out.bel HB.out).itm k hlt
      have hst : l.take (k + 1) = l.take k ++ [l.getD k default] := take_snoc hlt
      obtain ⟨⟨xid, xa⟩, hx⟩ : ∃ x, x = l.getD k default := ⟨_, rfl⟩
      rw [← hx] at c0 c1 hst
      have HST := Lib.hid hst
      have HX := Lib.hid hx
      have HAE := Lib.hid hAe
      have HCB := Lib.hid ((HB.out.cell (p := ⟨bx, 0, none⟩) HBX.out).trans hb.out)
      have HBL := Lib.hid (Nat.lt_of_lt_of_le HBX.out HB.out.size)
      clear hst hx hAe hbl
      rw [HAE.out]
      go_wp2_with fail
      refine (clos_calls ⟨xid, xa⟩ r bx wr HBL.out HCB.out).mono ?_
      rintro e w' ⟨rfl, hb'⟩
      have HB' := Lib.hid (bel_tr HB.out hb')
      clear hb' c0 c1
      by_cases hxr : xid = r
      · rw [show ((⟨xid, xa⟩ : Itm).id == r) = true from by simpa using hxr]
        have HXR := Lib.hid hxr
        clear hxr
        go_wp2_with fail
        go_ret
        exact ⟨⟨_, rfl, Lib.hid (.inr ⟨k, rfl, hlt, HI.out.2, by rw [← HX.out]; exact HXR.out⟩)⟩, HB'.out⟩
      · rw [show ((⟨xid, xa⟩ : Itm).id == r) = false from by simpa using hxr]
        have HXR := Lib.hid hxr
        clear hxr
        go_wp2_with fail
        rw [← HAE.out]
        go_roundg (gk - 1)
        case rel => exact ⟨k + 1, by go_num, Lib.hid ⟨by have := HI.out.1; omega, by rw [HST.out]; unfold Wh.del; rw [List.filter_append]; have := HI.out.2; unfold Wh.del at this; rw [this]; simp [HXR.out]⟩, HB'⟩
        case measure => omega
    · have hl : ¬ (k : Int) < (l.length : Int) := by omega
      have hn : Wh.del r l = l := by
        have := HI.out.2
        rwa [show k = l.length from by have := HI.out.1; omega, List.take_length] at this
      have HN := Lib.hid hn
      clear hlt hn
      go_wp2_with fail
      go_ret
      exact ⟨⟨_, rfl, Lib.hid (.inl ⟨rfl, HN.out⟩)⟩, HB.out⟩
end Go.Proofs.Ytheocdfccdpmbaa
