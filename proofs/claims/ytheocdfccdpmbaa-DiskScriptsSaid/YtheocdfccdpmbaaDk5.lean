/-
  slices.DeleteFunc at the closure of forget, on the row of what waits; a file's writes wait no more.
  Conditions: the row is the disk's own, the closure's variable lies elsewhere.
-/
import Derived.Test.YtheocdfccdpmbaaDk3
import Derived.Lib.SliceRun
import Derived.Deep.Cut
namespace Go.Proofs.Ytheocdfccdpmbaa
open Go.RowKit Go.Maps
set_option linter.unusedVariables false
set_option linter.unusedSimpArgs false
set_option linter.unusedSectionVars false
set_option maxHeartbeats 8000000

abbrev Wr := ByteArray × Nat
theorem take_snoc {α : Type} [Inhabited α] {l : List α} {k : Nat} (h : k < l.length) : l.take (k + 1) = l.take k ++ [l.getD k default] := by
  rw [List.take_add_one]
  simp [List.getD, h]
theorem toList_ne {s u : ByteArray} (h : s ≠ u) : (s.toList == u.toList) = false := by
  rw [beq_eq_false_iff_ne]
  intro e
  rw [ByteArray.toList_eq, ByteArray.toList_eq] at e
  apply h
  obtain ⟨x⟩ := s
  obtain ⟨y⟩ := u
  exact congrArg ByteArray.mk (Array.toList_inj.1 e)
theorem toList_eqd (s u : ByteArray) : (s.toList == u.toList) = decide (s = u) := by
  by_cases c : s = u
  · subst c; simp
  · rw [toList_ne c, decide_eq_false c]
theorem RdL.wrt {w : World} {A : Option Addr} {xs : List Wr} (h : RdL layD w A xs) (i : Nat) (hi : i < xs.length) : ∃ b off, A = some ⟨b, off, none⟩ ∧ b < w.heap.size ∧ w.cell? ⟨b, off + i * 2, none⟩ = some (.string (xs.getD i default).1) ∧ w.cell? ⟨b, off + i * 2 + 1, none⟩ = some (.int .i64 (xs.getD i default).2) := by
  obtain ⟨b, off, e, hb, hc⟩ := h i hi
  exact ⟨b, off, e, hb, hc 0 _ rfl, hc 1 _ rfl⟩
abbrev wrV (x : Wr) : Value := .agg #[.string x.1, .int .i64 x.2]
section
variable {w : World} {base g n cap size : Nat} {e : TypeId}
/-- cells behind o take other values -/
theorem rowStored : ∀ (vs : List Value) (o : Nat) (w : World) (xs : List Value), w.ownsRow base e size (.slice (some ⟨g, 0, none⟩) n cap) n xs → ∃ xs', (w.setCells g o vs).ownsRow base e size (.slice (some ⟨g, 0, none⟩) n cap) n xs' ∧ xs'.take o = xs.take o ∧ w.grownBy (w.setCells g o vs) (some g)
  | [], o, w, xs, h => ⟨xs, h, rfl, World.grownBy.refl w _⟩
  | v :: vs, o, w, xs, h => by
    have h1 := h.stored o v
    obtain ⟨xs', k1, k2, k3⟩ := rowStored vs (o + 1) _ _ h1.1
    refine ⟨xs', k1, ?_, ?_⟩
    · have := congrArg (List.take o) k2
      rw [List.take_take, List.take_take, Nat.min_eq_left (by omega)] at this
      rw [this, List.take_set_of_le (by omega)]
    · refine ⟨k3.os.trans h1.2.os, k3.tape.trans h1.2.tape, k3.output.trans h1.2.output, Nat.le_trans h1.2.size k3.size, fun k hk hne => ?_⟩
      exact (k3.block k (Nat.lt_of_lt_of_le hk h1.2.size) hne).trans (h1.2.block k hk hne)
/-- clear, whatever the elements are -/
theorem run_clearK {P : Program} (w : World) (t e ty : TypeId) (z : Value) (ht : P.underlying t = some (.slice e)) (hv : ∀ w, (zeroValue e).run P w = .ok z w) (b o n c : Nat) (hn : 0 < n)
    (hc : ∀ j, j < (Builtin.zeroCells z.cells n).toList.length → (w.cell? ⟨b, o + j, none⟩).isSome = true) (hf : ∀ j, j < (Builtin.zeroCells z.cells n).toList.length → w.frozen? ⟨b, o + j, none⟩ = false) (h1 : ∀ v ∈ (Builtin.zeroCells z.cells n).toList, v.oneCell' = true) :
    (Builtin.clear_ #[t] ty #[.slice (some ⟨b, o, none⟩) n c]).run P w = .ok (.tuple #[]) (w.setCells b o (Builtin.zeroCells z.cells n).toList) := by
  have hst := run_storeCells_cells (P := P) b o (Builtin.zeroCells z.cells n).toList 0 w (by simpa using hc) (by simpa using hf) h1
  simp only [Nat.add_zero] at hst
  obtain ⟨m, rfl⟩ : ∃ m, n = m + 1 := ⟨n - 1, by omega⟩
  simp [Builtin.clear_, run_underlying ht, hv]
  rw [hst]
  rfl
end
theorem flatW_cons (x : Wr) (xs : List Wr) : layD.flat (x :: xs) = .string x.1 :: .int .i64 x.2 :: layD.flat xs := by simp [Lay.flat, layD]
theorem flatW_set : ∀ (xs : List Wr) (j : Nat) (y : Wr), layD.flat (xs.set j y) = ((layD.flat xs).set (j * 2) (.string y.1)).set (j * 2 + 1) (.int .i64 y.2)
  | [], j, y => by simp [Lay.flat]
  | x :: xs, 0, y => by simp [flatW_cons]
  | x :: xs, j + 1, y => by
    rw [List.set_cons_succ, flatW_cons, flatW_cons, flatW_set xs j y, show (j + 1) * 2 = j * 2 + 1 + 1 from by omega]
    rfl
section
variable {w : World} {base g n cap : Nat} {xs : List Wr}
theorem OwnL.len_eq {α : Type} [Inhabited α] {L : Lay α} {e : TypeId} {w : World} {base g n cap : Nat} {xs : List α} (h : OwnL L e w base (.slice (some ⟨g, 0, none⟩) n cap) xs) : n = xs.length := by
  rcases h.2 with ⟨e, _⟩ | ⟨g', cap', cur, e, _⟩
  · cases e
  · injection e
theorem OwnL.atW (h : OwnL layD 92 w base (.slice (some ⟨g, 0, none⟩) n cap) xs) (j : Nat) (hj : j < xs.length) :
    w.cell? ⟨g, j * 2, none⟩ = some (.string (xs.getD j default).1) ∧ w.cell? ⟨g, j * 2 + 1, none⟩ = some (.int .i64 (xs.getD j default).2) ∧ w.frozen? ⟨g, j * 2, none⟩ = false ∧ w.frozen? ⟨g, j * 2 + 1, none⟩ = false := by
  have hn := h.len_eq
  subst hn
  have h2 : layD.k = 2 := rfl
  refine ⟨?_, ?_, h.frozenAt _, h.frozenAt _⟩
  · have := h.cellAt (j * 2) (by rw [h2]; omega)
    rw [this]
    have := layD.flat_get xs j 0 hj (by decide)
    rw [h2] at this
    simpa [layD] using this
  · have := h.cellAt (j * 2 + 1) (by rw [h2]; omega)
    rw [this]
    have := layD.flat_get xs j 1 hj (by decide)
    rw [h2] at this
    simpa [layD] using this
theorem OwnL.putW (h : OwnL layD 92 w base (.slice (some ⟨g, 0, none⟩) n cap) xs) (j : Nat) (id : ByteArray) (a : Nat) :
    OwnL layD 92 ((w.setCell ⟨g, j * 2, none⟩ (.string id)).setCell ⟨g, j * 2 + 1, none⟩ (.int .i64 a)) base (.slice (some ⟨g, 0, none⟩) n cap) (xs.set j ⟨id, a⟩) ∧ w.grownBy ((w.setCell ⟨g, j * 2, none⟩ (.string id)).setCell ⟨g, j * 2 + 1, none⟩ (.int .i64 a)) (some g) := by
  have hn := h.len_eq
  subst hn
  have h1 := World.ownsRow.stored h (j * 2) (.string id)
  have h2 := World.ownsRow.stored h1.1 (j * 2 + 1) (.int .i64 a)
  refine ⟨?_, h2.2.os.trans h1.2.os, h2.2.tape.trans h1.2.tape, h2.2.output.trans h1.2.output, Nat.le_trans h1.2.size h2.2.size, fun k hk hne => (h2.2.block k (Nat.lt_of_lt_of_le hk h1.2.size) hne).trans (h1.2.block k hk hne)⟩
  unfold OwnL
  rw [flatW_set, List.length_set]
  exact h2.1
theorem OwnL.cutW (h : OwnL layD 92 w base (.slice (some ⟨g, 0, none⟩) n cap) xs) (i : Nat) (hi : i ≤ xs.length) (vs : List Value) :
    OwnL layD 92 (w.setCells g (i * 2) vs) base (.slice (some ⟨g, 0, none⟩) i cap) (xs.take i) ∧ w.grownBy (w.setCells g (i * 2) vs) (some g) := by
  have hn := h.len_eq
  subst hn
  obtain ⟨ys, k1, k2, k3⟩ := rowStored vs (i * 2) w _ h
  refine ⟨?_, k3⟩
  rcases k1.2 with ⟨e, _⟩ | ⟨g', cap', cur, e, h1, h2, h3, h4, h5, h6⟩
  · cases e
  · injection e with e1 e2 e3
    injection e1 with e1
    injection e1 with e1 _ _
    subst e1; subst e3
    have hl : (xs.take i).length = i := by rw [List.length_take]; omega
    refine ⟨by rw [Lay.flat_len], .inr ⟨g, cap, cur, by rw [hl], h1, h2, by omega, h4, h5, ?_⟩⟩
    have hk : layD.k = 2 := rfl
    rw [hk] at h6 ⊢
    have := congrArg (List.take (i * 2)) h6
    rw [List.take_take, Nat.min_eq_left (by omega), k2] at this
    rw [hl]
    rw [this]
    have hsp : xs = xs.take i ++ xs.drop i := (List.take_append_drop i xs).symm
    have e1 : layD.flat xs = layD.flat (xs.take i) ++ layD.flat (xs.drop i) := by rw [← Lay.flat_app, List.take_append_drop]
    rw [e1, List.take_left' (by rw [Lay.flat_len, hk, hl])]
end

theorem clos_calls (x : Wr) (r : ByteArray) (bx : Nat) (w : World) (hb : bx < w.heap.size) (h : w.cell? ⟨bx, 0, none⟩ = some (.string r)) :
    Calls Try.prog 66 #[wrV x, .pointer (some ⟨bx, 0, none⟩)] w fun e w' => e = .returned (.bool (decide (x.1 = r))) ∧ Below w.heap.size w w' := by
  have hlt := hb
  have HB := Lib.hid (bel_new (Below.refl w.heap.size w) (.cells #[.string x.1, .int .i64 x.2] 92))
  have HK := Lib.hid (Blk.new w 92 #[.string x.1, .int .i64 x.2])
  go_enter Try.func66, Try.ntmps66
  go_upto_region 1 with (fail)
  have c0 : (w.alloc (.cells #[.string x.1, .int .i64 x.2] 92)).cell? ⟨w.heap.size, 0, none⟩ = some (.string x.1) := HK.out.cells 0
  have c1 : (w.alloc (.cells #[.string x.1, .int .i64 x.2] 92)).cell? ⟨bx, 0, none⟩ = some (.string r) := (HB.out.cell (p := ⟨bx, 0, none⟩) hb).trans h
  clear h HK
  generalize w.alloc (.cells #[.string x.1, .int .i64 x.2] 92) = w1 at *
  go_wp2_with fail
  go_ret
  exact ⟨ret_bool (toList_eqd _ _), HB.out⟩
theorem idxf_calls (A : Option Addr) (cap : Nat) (l : List Wr) (bx : Nat) (r : ByteArray) (w : World) (hR : Hid (RdL layD w A l)) (hlen : l.length ≤ 9223372036854775807) (hbx : bx < w.heap.size) (hb : Hid (w.cell? ⟨bx, 0, none⟩ = some (.string r))) :
    Calls Try.prog 89 #[.slice A l.length cap, .func (.func 66) #[] #[.pointer (some ⟨bx, 0, none⟩)]] w fun e w' =>
      (∃ i : Int, e = .returned (.int .i64 i) ∧ Hid ((i = -1 ∧ Dk.forget r l = l) ∨ ∃ k : Nat, i = k ∧ k < l.length ∧ Dk.forget r (l.take k) = l.take k ∧ (l.getD k default).1 = r)) ∧ Below w.heap.size w w' := by
  have HBX := Lib.hid hbx
  have HB0 := Lib.hid (Below.refl w.heap.size w)
  clear hbx
  go_enter Try.func89, Try.ntmps89
  go_wp2_with fail
  go_loopg [5, 8] l.length (fun g v5 v8 W => ∃ k : Nat, v8 = .int .i64 k ∧ Hid (k + g = l.length ∧ Dk.forget r (l.take k) = l.take k) ∧ Hid (Below w.heap.size w W))
  case atStart => exact ⟨0, rfl, Lib.hid ⟨by omega, by simp [Dk.forget]⟩, HB0⟩
  case round =>
    clear HB0
    obtain ⟨k, rfl, HI, HB⟩ := hrel
    by_cases hlt : k < l.length
    · have hl : (k : Int) < (l.length : Int) := by omega
      have hg : 0 < gk := by have := HI.out.1; omega
      obtain ⟨b, off, hAe, hbl, c0, c1⟩ := (hR.out.bel HB.out).wrt k hlt
      have hst : l.take (k + 1) = l.take k ++ [l.getD k default] := take_snoc hlt
      obtain ⟨⟨xid, xa⟩, hx⟩ : ∃ x, x = l.getD k default := ⟨_, rfl⟩
      rw [← hx] at c0 c1 hst
      have HST := Lib.hid hst
      have HX := Lib.hid hx
      have HAE := Lib.hid hAe
      have HCB := Lib.hid ((HB.out.cell (p := ⟨bx, 0, none⟩) HBX.out).trans hb.out)
      have HBL := Lib.hid (Nat.lt_of_lt_of_le HBX.out HB.out.size)
      clear hst hx hAe hbl
      rw [HAE.out]
      go_wp2_with fail
      refine (clos_calls ⟨xid, xa⟩ r bx wr HBL.out HCB.out).mono ?_
      rintro e w' ⟨rfl, hb'⟩
      have HB' := Lib.hid (bel_tr HB.out hb')
      clear hb' c0 c1
      by_cases hxr : xid = r
      · rw [show (decide ((⟨xid, xa⟩ : Wr).1 = r)) = true from by simpa using hxr]
        have HXR := Lib.hid hxr
        clear hxr
        go_wp2_with fail
        go_ret
        exact ⟨⟨_, rfl, Lib.hid (.inr ⟨k, rfl, hlt, HI.out.2, by rw [← HX.out]; exact HXR.out⟩)⟩, HB'.out⟩
      · rw [show (decide ((⟨xid, xa⟩ : Wr).1 = r)) = false from by simpa using hxr]
        have HXR := Lib.hid hxr
        clear hxr
        go_wp2_with fail
        rw [← HAE.out]
        go_roundg (gk - 1)
        case rel => exact ⟨k + 1, by go_num, Lib.hid ⟨by have := HI.out.1; omega, by rw [HST.out]; unfold Dk.forget; rw [List.filter_append]; have := HI.out.2; unfold Dk.forget at this; rw [this]; simp [HXR.out]⟩, HB'⟩
        case measure => omega
    · have hl : ¬ (k : Int) < (l.length : Int) := by omega
      have hn : Dk.forget r l = l := by
        have := HI.out.2
        rwa [show k = l.length from by have := HI.out.1; omega, List.take_length] at this
      have HN := Lib.hid hn
      clear hlt hn
      go_wp2_with fail
      go_ret
      exact ⟨⟨_, rfl, Lib.hid (.inl ⟨rfl, HN.out⟩)⟩, HB.out⟩

theorem del_snoc {r : ByteArray} {l : List Wr} {k : Nat} (hk : k < l.length) : Dk.forget r (l.take (k + 1)) = Dk.forget r (l.take k) ++ (if (l.getD k default).1 = r then [] else [l.getD k default]) := by
  rw [take_snoc hk]
  unfold Dk.forget
  rw [List.filter_append]
  generalize l.getD k default = x
  by_cases c : x.1 = r <;> simp [c]
/-- while items are struck -/
structure DelS (w : World) (g cap : Nat) (r : ByteArray) (l : List Wr) (i j : Nat) (L : List Wr) (W : World) : Prop where
  len : L.length = l.length
  top : L.take i = Dk.forget r (l.take j)
  bot : L.drop j = l.drop j
  own : OwnL layD 92 W 0 (.slice (some ⟨g, 0, none⟩) l.length cap) L
  turn : Turn (fun b => b = g) w W
theorem DelS.bel {w : World} {g cap : Nat} {r : ByteArray} {l : List Wr} {i j : Nat} {L : List Wr} {W W' : World} (h : DelS w g cap r l i j L W) (hb : Below W.heap.size W W') : DelS w g cap r l i j L W' :=
  { h with own := h.own.kept hb, turn := h.turn.trans (.bel (B := fun _ => False) hb) (fun b e => e.elim) }
theorem drop_at {l L : List Wr} {j : Nat} (h : L.drop j = l.drop j) (h1 : j < l.length) : L.getD j default = l.getD j default := by
  have e1 : (L.drop j)[0]? = (l.drop j)[0]? := by rw [h]
  rw [List.getElem?_drop, List.getElem?_drop] at e1
  simp only [List.getD, Nat.add_zero] at e1 ⊢
  rw [e1]
theorem DelS.skip {w : World} {g cap : Nat} {r : ByteArray} {l : List Wr} {i j : Nat} {L : List Wr} {W : World} (h : DelS w g cap r l i j L W) (h1 : j < l.length) (h2 : (l.getD j default).1 = r) : DelS w g cap r l i (j + 1) L W :=
  { h with top := by rw [del_snoc h1, if_pos h2, List.append_nil]; exact h.top, bot := by rw [← List.drop_drop, h.bot, List.drop_drop] }
theorem DelS.keep {w : World} {g cap : Nat} {r : ByteArray} {l : List Wr} {i j : Nat} {L : List Wr} {W : World} (h : DelS w g cap r l i j L W) (h1 : j < l.length) (hij : i < j) {id : ByteArray} {a : Nat} (hx : (⟨id, a⟩ : Wr) = l.getD j default) (h2 : id ≠ r) :
    DelS w g cap r l (i + 1) (j + 1) (L.set i ⟨id, a⟩) ((W.setCell ⟨g, i * 2, none⟩ (.string id)).setCell ⟨g, i * 2 + 1, none⟩ (.int .i64 a)) := by
  have hp := h.own.putW i id a
  refine ⟨by rw [List.length_set]; exact h.len, ?_, ?_, hp.1, h.turn.trans (.grown hp.2) (fun b e => .inl (by injection e with e; exact e.symm))⟩
  · have hi' : i < (L.set i ⟨id, a⟩).length := by rw [List.length_set, h.len]; omega
    rw [take_snoc hi', List.take_set_of_le (Nat.le_refl _), h.top, del_snoc h1, ← hx, if_neg h2]
    have : (L.set i ⟨id, a⟩).getD i default = (⟨id, a⟩ : Wr) := by
      have hl : i < L.length := by rw [h.len]; omega
      simp [List.getD, hl]
    rw [this]
  · rw [List.drop_set_of_lt (by omega), ← List.drop_drop, h.bot, List.drop_drop]
set_option maxRecDepth 20000 in
theorem delf_calls (v : Value) (l : List Wr) (bx : Nat) (r : ByteArray) (w : World) (hO : Hid (OwnL layD 92 w 0 v l)) (hl : l.length ≤ 4611686018427387904) (hbx : bx < w.heap.size) (hb : Hid (w.cell? ⟨bx, 0, none⟩ = some (.string r))) (hne : Hid (∀ b, v.ownBlock = some b → bx ≠ b)) :
    Calls Try.prog 65 #[v, .func (.func 66) #[] #[.pointer (some ⟨bx, 0, none⟩)]] w fun e w' =>
      ∃ v', e = .returned v' ∧ OwnL layD 92 w' 0 v' (Dk.forget r l) ∧ Turn (fun b => v.ownBlock = some b) w w' ∧ v'.ownBlock = v.ownBlock := by
  obtain ⟨A, cap, rfl, -, -, hR, -⟩ := hO.out.form
  have hx := idxf_calls A cap l bx r w (Lib.hid hR) (by omega) hbx hb
  have HX := Lib.hid hx
  have HLL := Lib.hid hl
  have HBX := Lib.hid hbx
  clear hx hR hl hbx
  go_enter Try.func65, Try.ntmps65
  go_wp2_with fail
  refine HX.out.mono ?_
  rintro e w1 ⟨⟨i, rfl, hi⟩, hb1⟩
  rcases hi.out with ⟨rfl, hn⟩ | ⟨k, rfl, hkl, hkn, hkr⟩
  · have HN := Lib.hid hn
    have HB1 := Lib.hid hb1
    clear hn hi hb1
    go_wp2_with fail
    go_ret
    rw [HN.out]
    exact ⟨_, rfl, hO.out.kept HB1.out, .bel HB1.out, rfl⟩
  · obtain ⟨g, rfl⟩ : ∃ g, A = some ⟨g, 0, none⟩ := by
      rcases hO.out.2 with ⟨e, h0⟩ | ⟨g', cap', cur, e, _⟩
      · omega
      · injection e with e _ _
        exact ⟨g', e⟩
    have HNE : Hid (bx ≠ g) := Lib.hid (hne.out g rfl)
    have HS0 : Hid (DelS w g cap r l k (k + 1) l w1) := Lib.hid ⟨rfl, by rw [del_snoc hkl, if_pos hkr, List.append_nil, hkn], rfl, hO.out.kept hb1, .bel hb1⟩
    have hki : ((k : Int) == -1) = false := by rw [beq_eq_false_iff_ne]; omega
    have HKL := Lib.hid hkl
    have hcap := (show l.length ≤ cap from by
      obtain ⟨A', cap', e, h1, -, -, -⟩ := hO.out.form
      injection e with _ _ e
      subst e; exact h1)
    have HCP := Lib.hid hcap
    have hkm : (k : Int) + 1 ≤ 9223372036854775807 := by have := HLL.out; omega
    clear hkn hkr hi hb1 hkl hcap hne HX
    go_wp2_with fail
    go_loopg [5, 6, 7] l.length (fun n v5 v6 v7 W => ∃ (i j : Nat) (L : List Wr), v5 = .int .i64 i ∧ v6 = .int .i64 j ∧ i < j ∧ j + n = l.length + k + 1 ∧ j ≤ l.length ∧ Hid (DelS w g cap r l i j L W))
    case atStart => exact ⟨k, k + 1, l, rfl, by go_num, by omega, by omega, by have := HKL.out; omega, HS0⟩
    case round =>
      clear HS0
      obtain ⟨i, j, L, rfl, rfl, hij, hjn, hjl, HI⟩ := hrel
      have HN := Lib.hid hjn
      have HLN := Lib.hid HI.out.len
      clear hjn
      by_cases hlt : j < l.length
      · have hjI : (j : Int) < (l.length : Int) := by omega
        have hiI : (i : Int) < (l.length : Int) := by omega
        have hg : 0 < gk := by have := HN.out; have := HKL.out; omega
        obtain ⟨c0, c1, -, -⟩ := HI.out.own.atW j (by rw [HLN.out]; exact hlt)
        have hxl := drop_at HI.out.bot hlt
        rw [hxl] at c0 c1
        obtain ⟨⟨xid, xa⟩, hx⟩ : ∃ x, x = l.getD j default := ⟨_, rfl⟩
        rw [← hx] at c0 c1
        have HX := Lib.hid hx
        have hgl : g < wr.heap.size := HI.out.own.lt2 g rfl
        have HGL := Lib.hid hgl
        have hj1 : (j : Int) + 1 ≤ 9223372036854775807 := by have := HLL.out; omega
        have HB2 := Lib.hid (bel_new (Below.refl wr.heap.size wr) (.cells #[.string xid, .int .i64 xa] 92))
        have HK2 := Lib.hid (Blk.new wr 92 #[.string xid, .int .i64 xa])
        have hcb : wr.cell? ⟨bx, 0, none⟩ = some (.string r) := (World.cell?_of_block (w := w) (a := ⟨bx, 0, none⟩) (HI.out.turn.block bx HBX.out HNE.out)).trans hb.out
        have HCB := Lib.hid hcb
        have HLT : Hid (bx < wr.heap.size) := Lib.hid (Nat.lt_of_lt_of_le HBX.out HI.out.turn.size)
        clear hx hxl hcb hgl
        go_upto_region 8 with (fail)
        have HI2 := Lib.hid (HI.out.bel HB2.out)
        have HCB2 := Lib.hid ((HB2.out.cell (p := ⟨bx, 0, none⟩) HLT.out).trans HCB.out)
        have HLT2 := Lib.hid (Nat.lt_of_lt_of_le HLT.out HB2.out.size)
        have HBB := Lib.hid HB2.out.size
        clear c0 c1 HCB HI HB2
        generalize hgz : wr.heap.size = gz at *
        generalize wr.alloc (.cells #[.string xid, .int .i64 xa] 92) = w2 at *
        have z0 : w2.cell? ⟨gz, 0, none⟩ = some (.string xid) := HK2.out.cells 0
        have z1 : w2.cell? ⟨gz, 1, none⟩ = some (.int .i64 xa) := HK2.out.cells 1
        go_wp2_with fail
        refine (clos_calls ⟨xid, xa⟩ r bx w2 HLT2.out HCB2.out).mono ?_
        rintro e w3 ⟨rfl, hb3⟩
        have HI3 := Lib.hid (HI2.out.bel hb3)
        have HK3 := Lib.hid (HK2.out.bel hb3)
        clear hb3 z0 z1 HI2 HK2 HCB2
        by_cases hxr : xid = r
        · rw [show decide ((⟨xid, xa⟩ : Wr).1 = r) = true from by simpa using hxr]
          have HXR : Hid ((l.getD j default).1 = r) := Lib.hid (by rw [← HX.out]; exact hxr)
          have HS := Lib.hid (HI3.out.skip hlt HXR.out)
          clear hxr
          go_wp2_with fail
          go_roundg (gk - 1)
          case rel => exact ⟨i, j + 1, L, rfl, by go_num, by omega, by have := HN.out; omega, by omega, HS⟩
          case measure => omega
        · rw [show decide ((⟨xid, xa⟩ : Wr).1 = r) = false from by simpa using hxr]
          have HS := Lib.hid (HI3.out.keep hlt hij HX.out hxr)
          have z0 : w3.cell? ⟨gz, 0, none⟩ = some (.string xid) := HK3.out.cells 0
          have z1 : w3.cell? ⟨gz, 1, none⟩ = some (.int .i64 xa) := HK3.out.cells 1
          obtain ⟨y0, y1, y2, y3⟩ := HI3.out.own.atW i (by have := HLN.out; omega)
          obtain ⟨y, hy⟩ : ∃ y, y = L.getD i default := ⟨_, rfl⟩
          rw [← hy] at y0 y1
          clear hxr hy
          go_wp2_with fail
          go_roundg (gk - 1)
          case rel => exact ⟨i + 1, j + 1, L.set i ⟨xid, xa⟩, by go_num, by go_num, by omega, by have := HN.out; omega, by omega, HS⟩
          case measure => omega
      · have hjI : ¬ (j : Int) < (l.length : Int) := by omega
        have hje : j = l.length := by omega
        have hmt : L.take i = Dk.forget r l := by rw [HI.out.top, hje, List.take_length]
        have HMT := Lib.hid hmt
        have hdl : (Dk.forget r l).length = i := by rw [← hmt, List.length_take, HLN.out]; omega
        have HDL := Lib.hid hdl
        have hic : (i : Int) ≤ (cap : Int) := by have := HCP.out; omega
        have hil : (i : Int) ≤ (l.length : Int) := by omega
        have hicn : ¬ i = cap := by have := HCP.out; omega
        have hpos : 0 < l.length - i := by omega
        have hzl : (Builtin.zeroCells #[Value.string ⟨#[]⟩, Value.int IntKind.i64 0] (l.length - i)).toList.length = (l.length - i) * 2 := by simp [Builtin.zeroCells, Nat.mul_comm]
        have hzone : ∀ v ∈ (Builtin.zeroCells #[Value.string ⟨#[]⟩, Value.int IntKind.i64 0] (l.length - i)).toList, v.oneCell' = true := fun v hv => by
          rw [Array.mem_toList_iff] at hv
          unfold Builtin.zeroCells at hv
          obtain ⟨t, -, e⟩ := Array.mem_map.1 hv
          rw [← e]
          rcases (by omega : t % 2 = 0 ∨ t % 2 = 1) with h | h <;> (simp only [List.size_toArray, List.length_cons, List.length_nil, Nat.zero_add, Nat.reduceAdd, h]; rfl)
        have hcs : ∀ q, q < (l.length - i) * 2 → (wr.cell? ⟨g, i * 2 + q, none⟩).isSome = true ∧ wr.frozen? ⟨g, i * 2 + q, none⟩ = false := fun q hq => by
          have hL := HLN.out
          have hk : layD.k = 2 := rfl
          have h1 := HI.out.own
          unfold OwnL at h1
          rw [← hL] at h1
          refine ⟨?_, h1.frozenAt _⟩
          rw [h1.cellAt (i * 2 + q) (by rw [hk]; omega)]
          rw [List.getElem?_eq_getElem (by rw [Lay.flat_len, hk]; omega)]
          rfl
        have HCS := Lib.hid hcs
        clear hje hmt hdl hcs
        have hclr := run_clearK (P := Try.prog) wr 83 92 0 (.agg #[.string ⟨#[]⟩, .int .i64 0]) Try.underlying83 (fun w => by kernel_rfl) g (i * 2) (l.length - i) (cap - i) hpos (fun q hq => (HCS.out q (by rwa [← hzl])).1) (fun q hq => (HCS.out q (by rwa [← hzl])).2) hzone
        have HCUT := Lib.hid (HI.out.own.cutW i (by rw [HLN.out]; omega) (Builtin.zeroCells #[Value.string ⟨#[]⟩, Value.int IntKind.i64 0] (l.length - i)).toList)
        clear hzl hzone
        go_wp2_with fail
        go_ret
        have h5 := HCUT.out
        rw [HMT.out] at h5
        rw [← HDL.out] at h5 ⊢
        exact ⟨_, rfl, h5.1, (HI.out.turn.trans (.grown h5.2) (fun b e => by injection e with e; exact .inl e.symm)).mono (fun b _ e => by rw [e]; rfl), rfl⟩
end Go.Proofs.Ytheocdfccdpmbaa
