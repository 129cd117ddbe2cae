/-
  Contract: slices.DeleteFunc at the closure of Cancel, whole.
  Conditions: the row is the wheel's own, the closure's variable lies elsewhere.
-/
import Derived.Test.YtheocdfccdpmbaaWhJ
import Derived.Deep.Cut
namespace Go.Proofs.Ytheocdfccdpmbaa
open Go.RowKit Go.Maps
set_option linter.unusedVariables false
set_option linter.unusedSimpArgs false
set_option maxHeartbeats 8000000

theorem del_snoc {r : Int} {l : List Itm} {k : Nat} (hk : k < l.length) : Wh.del r (l.take (k + 1)) = Wh.del r (l.take k) ++ (if (l.getD k default).id = r then [] else [l.getD k default]) := by
  rw [take_snoc hk]
  unfold Wh.del
  rw [List.filter_append]
  generalize l.getD k default = x
  by_cases c : x.id = r <;> simp [c]
/-- while items are struck -/
structure DelS (w : World) (g cap : Nat) (r : Int) (l : List Itm) (i j : Nat) (L : List Itm) (W : World) : Prop where
  len : L.length = l.length
  top : L.take i = Wh.del r (l.take j)
  bot : L.drop j = l.drop j
  own : OwnL layW 31 W 0 (.slice (some ⟨g, 0, none⟩) l.length cap) L
  turn : Turn (fun b => b = g) w W
theorem DelS.bel {w : World} {g cap : Nat} {r : Int} {l : List Itm} {i j : Nat} {L : List Itm} {W W' : World} (h : DelS w g cap r l i j L W) (hb : Below W.heap.size W W') : DelS w g cap r l i j L W' :=
  { h with own := h.own.kept hb, turn := h.turn.trans (.bel (B := fun _ => False) hb) (fun b e => e.elim) }
theorem drop_at {l L : List Itm} {j : Nat} (h : L.drop j = l.drop j) (h1 : j < l.length) : L.getD j default = l.getD j default := by
  have e1 : (L.drop j)[0]? = (l.drop j)[0]? := by rw [h]
  rw [List.getElem?_drop, List.getElem?_drop] at e1
  simp only [List.getD, Nat.add_zero] at e1 ⊢
  rw [e1]
theorem DelS.skip {w : World} {g cap : Nat} {r : Int} {l : List Itm} {i j : Nat} {L : List Itm} {W : World} (h : DelS w g cap r l i j L W) (h1 : j < l.length) (h2 : (l.getD j default).id = r) : DelS w g cap r l i (j + 1) L W :=
  { h with top := by rw [del_snoc h1, if_pos h2, List.append_nil]; exact h.top, bot := by rw [← List.drop_drop, h.bot, List.drop_drop] }
theorem DelS.keep {w : World} {g cap : Nat} {r : Int} {l : List Itm} {i j : Nat} {L : List Itm} {W : World} (h : DelS w g cap r l i j L W) (h1 : j < l.length) (hij : i < j) {id a : Int} (hx : (⟨id, a⟩ : Itm) = l.getD j default) (h2 : id ≠ r) :
    DelS w g cap r l (i + 1) (j + 1) (L.set i ⟨id, a⟩) ((W.setCell ⟨g, i * 2, none⟩ (.int .i64 id)).setCell ⟨g, i * 2 + 1, none⟩ (.int .i64 a)) := by
  have hp := h.own.putW i id a
  refine ⟨by rw [List.length_set]; exact h.len, ?_, ?_, hp.1, h.turn.trans (.grown hp.2) (fun b e => .inl (by injection e with e; exact e.symm))⟩
  · have hi' : i < (L.set i ⟨id, a⟩).length := by rw [List.length_set, h.len]; omega
    rw [take_snoc hi', List.take_set_of_le (Nat.le_refl _), h.top, del_snoc h1, ← hx, if_neg h2]
    have : (L.set i ⟨id, a⟩).getD i default = (⟨id, a⟩ : Itm) := by
      have hl : i < L.length := by rw [h.len]; omega
      simp [List.getD, hl]
    rw [this]
  · rw [List.drop_set_of_lt (by omega), ← List.drop_drop, h.bot, List.drop_drop]
set_option maxRecDepth 20000 in
theorem delf_calls (v : Value) (l : List Itm) (bx : Nat) (r : Int) (w : World) (hO : Hid (OwnL layW 31 w 0 v l)) (hl : l.length ≤ 4611686018427387904) (hbx : bx < w.heap.size) (hb : Hid (w.cell? ⟨bx, 0, none⟩ = some (.int .i64 r))) (hne : Hid (∀ b, v.ownBlock = some b → bx ≠ b)) :
    Calls Try.prog 54 #[v, .func (.func 55) #[] #[.pointer (some ⟨bx, 0, none⟩)]] w fun e w' =>
      ∃ v', e = .returned v' ∧ OwnL layW 31 w' 0 v' (Wh.del r l) ∧ Turn (fun b => v.ownBlock = some b) w w' ∧ v'.ownBlock = v.ownBlock := by
  obtain ⟨A, cap, rfl, -, -, hR, -⟩ := hO.out.form
  have hx := idxf_calls A cap l bx r w (Lib.hid hR) (by omega) hbx hb
  have HX := Lib.hid hx
  have HLL := Lib.hid hl
  have HBX := Lib.hid hbx
  clear hx hR hl hbx
  go_enter Try.func54, Try.ntmps54
  go_wp2_with fail
  refine HX.out.mono ?_
  rintro e w1 ⟨⟨i, rfl, hi⟩, hb1⟩
  rcases hi.out with ⟨rfl, hn⟩ | ⟨k, rfl, hkl, hkn, hkr⟩
  · have HN := Lib.hid hn
    have HB1 := Lib.hid hb1
    clear hn hi hb1
    go_wp2_with fail
    go_ret
    rw [HN.out]
    exact ⟨_, rfl, hO.out.kept HB1.out, .bel HB1.out, rfl⟩
  · obtain ⟨g, rfl⟩ : ∃ g, A = some ⟨g, 0, none⟩ := by
      rcases hO.out.2 with ⟨e, h0⟩ | ⟨g', cap', cur, e, _⟩
      · omega
      · injection e with e _ _
        exact ⟨g', e⟩
    have HNE : Hid (bx ≠ g) := Lib.hid (hne.out g rfl)
    have HS0 : Hid (DelS w g cap r l k (k + 1) l w1) := Lib.hid ⟨rfl, by rw [del_snoc hkl, if_pos hkr, List.append_nil, hkn], rfl, hO.out.kept hb1, .bel hb1⟩
    have hki : ((k : Int) == -1) = false := by rw [beq_eq_false_iff_ne]; omega
    have HKL := Lib.hid hkl
    have hcap := (show l.length ≤ cap from by
      obtain ⟨A', cap', e, h1, -, -, -⟩ := hO.out.form
      injection e with _ _ e
      subst e; exact h1)
    have HCP := Lib.hid hcap
    have hkm : (k : Int) + 1 ≤ 9223372036854775807 := by have := HLL.out; omega
    clear hkn hkr hi hb1 hkl hcap hne HX
    go_wp2_with fail
    go_loopg [5, 6, 7] l.length (fun n v5 v6 v7 W => ∃ (i j : Nat) (L : List Itm), v5 = .int .i64 i ∧ v6 = .int .i64 j ∧ i < j ∧ j + n = l.length + k + 1 ∧ j ≤ l.length ∧ Hid (DelS w g cap r l i j L W))
    case atStart => exact ⟨k, k + 1, l, rfl, by go_num, by omega, by omega, by have := HKL.out; omega, HS0⟩
    case round =>
      clear HS0
      obtain ⟨i, j, L, rfl, rfl, hij, hjn, hjl, HI⟩ := hrel
      have HN := Lib.hid hjn
      have HLN := Lib.hid HI.out.len
      clear hjn
      by_cases hlt : j < l.length
      · have hjI : (j : Int) < (l.length : Int) := by omega
        have hiI : (i : Int) < (l.length : Int) := by omega
        have hg : 0 < gk := by have := HN.out; have := HKL.out; omega
        obtain ⟨c0, c1, -, -⟩ := HI.out.own.atW j (by rw [HLN.out]; exact hlt)
        have hxl := drop_at HI.out.bot hlt
        rw [hxl] at c0 c1
        obtain ⟨⟨xid, xa⟩, hx⟩ : ∃ x, x = l.getD j default := ⟨_, rfl⟩
        rw [← hx] at c0 c1
        have HX := Lib.hid hx
        have hgl : g < wr.heap.size := HI.out.own.lt2 g rfl
        have HGL := Lib.hid hgl
        have hj1 : (j : Int) + 1 ≤ 9223372036854775807 := by have := HLL.out; omega
        have HB2 := Lib.hid (bel_new (Below.refl wr.heap.size wr) (.cells #[.int .i64 xid, .int .i64 xa] 31))
        have HK2 := Lib.hid (Blk.new wr 31 #[.int .i64 xid, .int .i64 xa])
        have hcb : wr.cell? ⟨bx, 0, none⟩ = some (.int .i64 r) := (World.cell?_of_block (w := w) (a := ⟨bx, 0, none⟩) (HI.out.turn.block bx HBX.out HNE.out)).trans hb.out
        have HCB := Lib.hid hcb
        have HLT : Hid (bx < wr.heap.size) := Lib.hid (Nat.lt_of_lt_of_le HBX.out HI.out.turn.size)
        clear hx hxl hcb hgl
        go_upto_region 8 with (fail)
        have HI2 := Lib.hid (HI.out.bel HB2.out)
        have HCB2 := Lib.hid ((HB2.out.cell (p := ⟨bx, 0, none⟩) HLT.out).trans HCB.out)
        have HLT2 := Lib.hid (Nat.lt_of_lt_of_le HLT.out HB2.out.size)
        have HBB := Lib.hid HB2.out.size
        clear c0 c1 HCB HI HB2
        generalize hgz : wr.heap.size = gz at *
        generalize wr.alloc (.cells #[.int .i64 xid, .int .i64 xa] 31) = w2 at *
        have z0 : w2.cell? ⟨gz, 0, none⟩ = some (.int .i64 xid) := HK2.out.cells 0
        have z1 : w2.cell? ⟨gz, 1, none⟩ = some (.int .i64 xa) := HK2.out.cells 1
        go_wp2_with fail
        refine (clos_calls ⟨xid, xa⟩ r bx w2 HLT2.out HCB2.out).mono ?_
        rintro e w3 ⟨rfl, hb3⟩
        have HI3 := Lib.hid (HI2.out.bel hb3)
        have HK3 := Lib.hid (HK2.out.bel hb3)
        clear hb3 z0 z1 HI2 HK2 HCB2
        by_cases hxr : xid = r
        · rw [show ((⟨xid, xa⟩ : Itm).id == r) = true from by simpa using hxr]
          have HXR : Hid ((l.getD j default).id = r) := Lib.hid (by rw [← HX.out]; exact hxr)
          have HS := Lib.hid (HI3.out.skip hlt HXR.out)
          clear hxr
          go_wp2_with fail
          go_roundg (gk - 1)
          case rel => exact ⟨i, j + 1, L, rfl, by go_num, by omega, by have := HN.out; omega, by omega, HS⟩
          case measure => omega
        · rw [show ((⟨xid, xa⟩ : Itm).id == r) = false from by simpa using hxr]
          have HS := Lib.hid (HI3.out.keep hlt hij HX.out hxr)
          have z0 : w3.cell? ⟨gz, 0, none⟩ = some (.int .i64 xid) := HK3.out.cells 0
          have z1 : w3.cell? ⟨gz, 1, none⟩ = some (.int .i64 xa) := HK3.out.cells 1
          obtain ⟨y0, y1, y2, y3⟩ := HI3.out.own.atW i (by have := HLN.out; omega)
          obtain ⟨y, hy⟩ : ∃ y, y = L.getD i default := ⟨_, rfl⟩
          rw [← hy] at y0 y1
          clear hxr hy
          go_wp2_with fail
          go_roundg (gk - 1)
          case rel => exact ⟨i + 1, j + 1, L.set i ⟨xid, xa⟩, by go_num, by go_num, by omega, by have := HN.out; omega, by omega, HS⟩
          case measure => omega
      · have hjI : ¬ (j : Int) < (l.length : Int) := by omega
        have hje : j = l.length := by omega
        have hmt : L.take i = Wh.del r l := by rw [HI.out.top, hje, List.take_length]
        have HMT := Lib.hid hmt
        have hdl : (Wh.del r l).length = i := by rw [← hmt, List.length_take, HLN.out]; omega
        have HDL := Lib.hid hdl
        have hic : (i : Int) ≤ (cap : Int) := by have := HCP.out; omega
        have hil : (i : Int) ≤ (l.length : Int) := by omega
        have hicn : ¬ i = cap := by have := HCP.out; omega
        have hpos : 0 < l.length - i := by omega
        have hzl : (Builtin.zeroCells #[Value.int IntKind.i64 0, Value.int IntKind.i64 0] (l.length - i)).toList.length = (l.length - i) * 2 := by simp [Builtin.zeroCells, Nat.mul_comm]
        have hzone : ∀ v ∈ (Builtin.zeroCells #[Value.int IntKind.i64 0, Value.int IntKind.i64 0] (l.length - i)).toList, v.oneCell' = true := fun v hv => by
          rw [Array.mem_toList_iff] at hv
          unfold Builtin.zeroCells at hv
          obtain ⟨t, -, e⟩ := Array.mem_map.1 hv
          rw [← e]
          rcases (by omega : t % 2 = 0 ∨ t % 2 = 1) with h | h <;> (simp only [List.size_toArray, List.length_cons, List.length_nil, Nat.zero_add, Nat.reduceAdd, h]; rfl)
        have hcs : ∀ q, q < (l.length - i) * 2 → (wr.cell? ⟨g, i * 2 + q, none⟩).isSome = true ∧ wr.frozen? ⟨g, i * 2 + q, none⟩ = false := fun q hq => by
          have hL := HLN.out
          have hk : layW.k = 2 := rfl
          have h1 := HI.out.own
          unfold OwnL at h1
          rw [← hL] at h1
          refine ⟨?_, h1.frozenAt _⟩
          rw [h1.cellAt (i * 2 + q) (by rw [hk]; omega)]
          rw [List.getElem?_eq_getElem (by rw [Lay.flat_len, hk]; omega)]
          rfl
        have HCS := Lib.hid hcs
        clear hje hmt hdl hcs
        have hclr := run_clearK (P := Try.prog) wr 22 31 0 (.agg #[.int .i64 0, .int .i64 0]) Try.underlying22 (fun w => by kernel_rfl) g (i * 2) (l.length - i) (cap - i) hpos (fun q hq => (HCS.out q (by rwa [← hzl])).1) (fun q hq => (HCS.out q (by rwa [← hzl])).2) hzone
        have HCUT := Lib.hid (HI.out.own.cutW i (by rw [HLN.out]; omega) (Builtin.zeroCells #[Value.int IntKind.i64 0, Value.int IntKind.i64 0] (l.length - i)).toList)
        clear hzl hzone
        go_wp2_with fail
        go_ret
        have h5 := HCUT.out
        rw [HMT.out] at h5
        rw [← HDL.out] at h5 ⊢
        exact ⟨_, rfl, h5.1, (HI.out.turn.trans (.grown h5.2) (fun b e => by injection e with e; exact .inl e.symm)).mono (fun b _ e => by rw [e]; rfl), rfl⟩
end Go.Proofs.Ytheocdfccdpmbaa
