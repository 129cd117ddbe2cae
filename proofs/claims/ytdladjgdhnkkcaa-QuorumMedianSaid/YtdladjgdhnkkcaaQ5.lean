/-
  slices.DeleteFunc at the closure of quorum.Next, on a row of the call's own.
  Conditions: the row is the call's own, the closure's variable lies elsewhere.
-/
import Derived.Test.YtdladjgdhnkkcaaQ4
namespace Go.Proofs.Ytdladjgdhnkkcaa
open Go.RowKit
set_option linter.unusedVariables false
set_option linter.unusedSimpArgs false

namespace Qm
/-- all but r -/
def rest (r : Int) (l : List Int) : List Int := l.filter fun x => !(x == r)
theorem rest_none {r : Int} {l : List Int} (h : r ∉ l) : rest r l = l := by
  unfold rest
  rw [List.filter_eq_self]
  intro x hx
  have : x ≠ r := fun e => h (e ▸ hx)
  simpa using this
theorem rest_step (r : Int) (l : List Int) (k : Nat) (h : k < l.length) : rest r (l.take (k + 1)) = rest r (l.take k) ++ (if l.getD k default = r then [] else [l.getD k default]) := by
  unfold rest
  rw [List.take_succ_eq_append_getElem h, List.filter_append]
  simp only [List.getD, List.getElem?_eq_getElem h, Option.getD_some]
  by_cases hm : l[k] = r <;> simp [hm]
theorem rest_len (r : Int) (l : List Int) : (rest r l).length ≤ l.length := List.length_filter_le _ _
end Qm

set_option maxRecDepth 20000 in
set_option maxHeartbeats 4000000 in
theorem delf_calls (base g cap : Nat) (l : List Int) (bx : Nat) (r : Int) (w : World) (hO : Hid (OwnL (layI .i64) 3 w base (.slice (some ⟨g, 0, none⟩) l.length cap) l)) (hcl : l.length ≤ cap) (hcap : cap ≤ 9223372036854775807) (hb : Hid (w.cell? ⟨bx, 0, none⟩ = some (.int .i64 r))) (hbx : bx < w.heap.size) (hne : bx ≠ g) :
    Calls Try.prog 75 #[.slice (some ⟨g, 0, none⟩) l.length cap, .func (.func 76) #[] #[.pointer (some ⟨bx, 0, none⟩)]] w fun e w' =>
      e = .returned (.slice (some ⟨g, 0, none⟩) (Qm.rest r l).length cap) ∧ OwnL (layI .i64) 3 w' base (.slice (some ⟨g, 0, none⟩) (Qm.rest r l).length cap) (Qm.rest r l) ∧ w.grownBy w' (some g) := by
  have hR : RdI w (some ⟨g, 0, none⟩) l := by
    obtain ⟨A', c', e, _, _, h, _⟩ := hO.out.form
    injection e with e
    subst e
    exact h
  have hx := idxf_calls (some ⟨g, 0, none⟩) cap l bx r w (Lib.hid hR) (by omega) hb
  have HX := Lib.hid hx
  clear hx hR
  obtain ⟨m, hm⟩ : ∃ m, m = Qm.rest r l := ⟨_, rfl⟩
  rw [← hm]
  have HM := Lib.hid hm
  clear hm
  go_enter Try.func75, Try.ntmps75
  go_wp2_with fail
  refine HX.out.mono ?_
  rintro e w' ⟨⟨i, rfl, hi⟩, rfl⟩
  rcases hi.out with ⟨rfl, hn⟩ | ⟨k, rfl, hkl, hkn, hkr⟩
  · have hml : m = l := by rw [HM.out, Qm.rest_none hn]
    have HML := Lib.hid hml
    clear hn hi hml
    go_wp2_with fail
    go_ret
    rw [HML.out]
    exact ⟨rfl, hO.out, World.grownBy.refl w _⟩
  · have HKN := Lib.hid hkn
    have HKR := Lib.hid hkr
    have hki : ((k : Int) == -1) = false := by rw [beq_eq_false_iff_ne]; omega
    have hkl2 : (k : Int) < (l.length : Int) := by omega
    have HKL := Lib.hid hkl
    clear hkn hkr hi
    go_wp2_with fail
    go_loopg [5, 6, 7] l.length (fun n v5 v6 v7 W => ∃ i j : Nat, v5 = .int .i64 i ∧ v6 = .int .i64 j ∧ i < j ∧ j + n = l.length + k + 1 ∧ j ≤ l.length ∧
      Hid (∃ L, L.length = l.length ∧ L.take i = Qm.rest r (l.take j) ∧ L.drop j = l.drop j ∧ OwnL (layI .i64) 3 W base (.slice (some ⟨g, 0, none⟩) l.length cap) L ∧ w.grownBy W (some g)))
    case atStart =>
      refine ⟨k, k + 1, rfl, by go_num, by omega, by omega, by have := HKL.out; omega, Lib.hid ⟨l, rfl, ?_, rfl, hO.out, World.grownBy.refl w _⟩⟩
      rw [Qm.rest_step r l k HKL.out, if_pos HKR.out, Qm.rest_none HKN.out, List.append_nil]
    case round =>
      obtain ⟨i, j, rfl, rfl, hij, hjn, hjl, HI⟩ := hrel
      obtain ⟨L, h1, h2, h3, h4, h5⟩ := HI.out
      have HN := Lib.hid hjn
      have HL1 := Lib.hid h1
      have HL2 := Lib.hid h2
      have HL3 := Lib.hid h3
      have HO4 := Lib.hid h4
      have HG5 := Lib.hid h5
      have hbw : wr.cell? ⟨bx, 0, none⟩ = some (.int .i64 r) := (World.cell?_of_block (w := w) (a := ⟨bx, 0, none⟩) (h5.block bx hbx (by intro e; injection e with e; exact hne e))).trans hb.out
      have HBW := Lib.hid hbw
      clear h1 h2 h3 h4 h5 HI hjn hbw
      by_cases hlt : j < l.length
      · have hl : (j : Int) < (l.length : Int) := by omega
        have hii : (i : Int) < (l.length : Int) := by omega
        have hg : 0 < gk := by have := HN.out; have := HKL.out; omega
        have c1 := HO4.out.at_ j (by have := HL1.out; omega)
        have c2 := (HO4.out.at_ i (by have := HL1.out; omega)).2
        obtain ⟨y, hy⟩ : ∃ y, y = L.getD i 0 := ⟨_, rfl⟩
        have c3 := (HO4.out.at_ i (by have := HL1.out; omega)).1
        rw [← hy] at c3
        obtain ⟨x, hx⟩ : ∃ x, x = L.getD j 0 := ⟨_, rfl⟩
        rw [← hx] at c1
        have hxl : x = l.getD j default := by
          have e1 := Qm.drop_at L j (by have := HL1.out; omega)
          have e2 := Qm.drop_at l j hlt
          rw [HL3.out, e2] at e1
          injection e1 with e1 _
          rw [hx]; exact e1.symm
        have HXL := Lib.hid hxl
        obtain ⟨c1, _⟩ := c1
        have hst := Qm.rest_step r l j hlt
        rw [← hxl] at hst
        have HST := Lib.hid hst
        have HD : Hid (L.drop (j + 1) = l.drop (j + 1)) := Lib.hid (by rw [← List.drop_drop, HL3.out, List.drop_drop])
        clear hx hxl hst hy
        go_wp2_with fail
        refine (clos_calls x r bx wr HBW.out).mono ?_
        rintro e w' ⟨rfl, rfl⟩
        by_cases hxr : x = r
        · rw [show (x == r) = true from by simpa using hxr]
          have HXR := Lib.hid hxr
          clear hxr
          go_wp2_with fail
          go_roundg (gk - 1)
          case rel => exact ⟨i, j + 1, rfl, by go_num, by omega, by have := HN.out; omega, by omega, Lib.hid ⟨L, HL1.out, by rw [HST.out, if_pos HXR.out, List.append_nil]; exact HL2.out, HD.out, HO4.out, HG5.out⟩⟩
          case measure => omega
        · rw [show (x == r) = false from by simpa using hxr]
          have HXR := Lib.hid hxr
          have HOP := Lib.hid (HO4.out.put i x)
          have HGP := Lib.hid (grown_set HG5.out i (.int .i64 x))
          have HT : Hid ((L.set i x).take (i + 1) = Qm.rest r (l.take (j + 1))) := Lib.hid (by
            have hi' : i < (L.set i x).length := by rw [List.length_set]; have := HL1.out; omega
            rw [List.take_succ_eq_append_getElem hi', List.take_set_of_le (Nat.le_refl _), HL2.out, HST.out, if_neg hxr]
            simp)
          have HD2 : Hid ((L.set i x).drop (j + 1) = l.drop (j + 1)) := Lib.hid (by rw [List.drop_set_of_lt (by omega)]; exact HD.out)
          clear hxr
          go_wp2_with fail
          go_roundg (gk - 1)
          case rel => exact ⟨i + 1, j + 1, by go_num, by go_num, by omega, by have := HN.out; omega, by omega, Lib.hid ⟨L.set i x, by rw [List.length_set]; exact HL1.out, HT.out, HD2.out, HOP.out, HGP.out⟩⟩
          case measure => omega
      · have hl : ¬ (j : Int) < (l.length : Int) := by omega
        have hje : j = l.length := by omega
        have hmt : L.take i = m := by rw [HL2.out, hje, List.take_length, ← HM.out]
        have hml : m.length = i := by rw [← hmt, List.length_take]; have := HL1.out; omega
        have HMT := Lib.hid hmt
        have HML := Lib.hid hml
        have hic : (i : Int) ≤ (cap : Int) := by omega
        have hil : (i : Int) ≤ (l.length : Int) := by omega
        have hicn : ¬ i = cap := by omega
        have hpos : 0 < l.length - i := by omega
        have hcs : ∀ q, q < l.length - i → (wr.cell? ⟨g, i + q, none⟩).isSome = true ∧ wr.frozen? ⟨g, i + q, none⟩ = false := fun q hq => by
          obtain ⟨a1, a2⟩ := HO4.out.at_ (i + q) (by have := HL1.out; omega)
          exact ⟨by rw [a1]; rfl, a2⟩
        have HCS := Lib.hid hcs
        clear hlt hje hmt hml hcs
        have hclr := Lib.run_clear_slice (P := Try.prog) wr 45 3 0 (.int .i64 0) Try.underlying45 (fun w => by kernel_rfl) rfl rfl g i (l.length - i) (cap - i) hpos (fun q hq => (HCS.out q hq).1) (fun q hq => (HCS.out q hq).2)
        go_wp2_with fail
        go_ret
        obtain ⟨l', z1, z2, z3, z4⟩ := OwnL.zeros (l.length - i) i wr L HO4.out HG5.out
        have hlL := HL1.out
        have z5 := z1.cut i (by rw [z2]; omega)
        rw [z3, HMT.out] at z5
        rw [HML.out]
        exact ⟨rfl, z5, z4⟩
end Go.Proofs.Ytdladjgdhnkkcaa
