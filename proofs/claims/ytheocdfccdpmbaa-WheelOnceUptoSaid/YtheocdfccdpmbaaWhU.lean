/-
  Contract: the reference of a wheel goes on to an instant.
  Conditions: the reference holds R, in order.
-/
import Derived.Test.YtheocdfccdpmbaaWhT
import Derived.Deep.DeepCutAuto
namespace Go.Proofs.Ytheocdfccdpmbaa
open Go.RowKit Go.Maps
set_option linter.unusedVariables false
set_option linter.unusedSimpArgs false
set_option maxHeartbeats 8000000

theorem Wh.upto_count {t : Int} {R : List Itm} (h : R.Pairwise Wh.before) {n : Nat} (hn : n ≤ R.length) (h1 : ∀ j, j < n → (R.getD j default).at_ ≤ t) (h2 : n < R.length → t < (R.getD n default).at_) : (Wh.upto t R).length = n := by
  have hu := Wh.upto_take (t := t) h
  have hl := Wh.split_len t R
  generalize hm : (Wh.upto t R).length = m at *
  rcases Nat.lt_trichotomy m n with c | c | c
  · have hx : R.getD m default ∈ Wh.past t R := by
      rw [hu.2]
      have : R.getD m default = R[m] := by simp [List.getD, show m < R.length by omega]
      rw [this, List.drop_eq_getElem_cons (show m < R.length by omega)]
      exact List.mem_cons_self ..
    have h3 := h1 m c
    have h4 : t < (R.getD m default).at_ := by simpa using (List.mem_filter.1 hx).2
    omega
  · exact c
  · have hx : R.getD n default ∈ Wh.upto t R := by
      rw [hu.1]
      have e : R.getD n default = (R.take m)[n]'(by rw [List.length_take]; omega) := by simp [List.getD, show n < R.length by omega]
      rw [e]
      exact List.getElem_mem _
    have h3 := h2 (by omega)
    have h4 : (R.getD n default).at_ ≤ t := by simpa using (List.mem_filter.1 hx).2
    omega
theorem RfS.set0 {base rg : Nat} {rn : Int} {v : Value} {R : List Itm} {W : World} (h : RfS base rg rn v R W) (t : Int) : RfS base rg t v R (W.setCell ⟨rg, 0, none⟩ (.int .i64 t)) := by
  refine ⟨?_, h.own.turn (Turn.set W ⟨rg, 0, none⟩ (.int .i64 t)) (fun b e => h.ne b e), h.ne, h.lo⟩
  have := h.blk.set 0 (.int .i64 t)
  simpa only [List.setIfInBounds_toArray, List.set_cons_succ, List.set_cons_zero] using this
/-- what the reference answers -/
def RAdv (base rg : Nat) (v : Value) (w : World) (rn t : Int) (R : List Itm) (e : Ending) (w' : World) : Prop :=
  if advE rn t = 0 then ∃ A c, e = .returned (.tuple #[.slice A (Wh.upto t R).length c, .int .i64 0]) ∧ RTo base rg v w t (Wh.past t R) w' ∧ RdL layW w' A (Wh.upto t R)
  else e = .returned (.tuple #[.slice none 0 0, .int .i64 30]) ∧ RTo base rg v w rn R w'
set_option maxRecDepth 20000 in
theorem radvance_calls {base rg : Nat} {rn : Int} {v : Value} {R : List Itm} {w : World} (H : Hid (RfS base rg rn v R w)) (hs : Hid (R.Pairwise Wh.before)) (hl : R.length ≤ 4096) (t : Int) :
    Calls Try.prog 38 #[.pointer (some ⟨rg, 0, none⟩), .int .i64 t] w (RAdv base rg v w rn t R) := by
  have HL := Lib.hid hl
  obtain ⟨A, cap, rfl, hcap, hcap2, -, hA⟩ := H.out.own.form
  have HCP := Lib.hid hcap
  have hA3 : ∀ b off sp, A = some ⟨b, off, sp⟩ → sp = none := fun b off sp e => (hA b off sp e).2.2
  have HA3 := Lib.hid hA3
  have c0 : w.cell? ⟨rg, 0, none⟩ = some (.int .i64 rn) := H.out.blk.cells 0
  have f0 : w.frozen? ⟨rg, 0, none⟩ = false := H.out.blk.free 0
  clear hcap hcap2 hA hA3 hl
  by_cases b1 : t < rn
  · have HE : Hid (advE rn t = 30) := Lib.hid (by unfold advE; rw [if_pos (.inl b1)])
    go_enter Try.func38, Try.ntmps38
    go_wp2_with fail
    go_ret2
    unfold RAdv
    rw [HE.out, if_neg (by decide)]
    exact ⟨rfl, RTo.refl H.out (Below.refl _ _)⟩
  by_cases b2 : 226157759 < t
  · have HE : Hid (advE rn t = 30) := Lib.hid (by unfold advE; rw [if_pos (.inr b2)])
    go_enter Try.func38, Try.ntmps38
    go_wp2_with fail
    go_ret2
    unfold RAdv
    rw [HE.out, if_neg (by decide)]
    exact ⟨rfl, RTo.refl H.out (Below.refl _ _)⟩
  have HE : Hid (advE rn t = 0) := Lib.hid (by unfold advE; rw [if_neg (by omega)])
  go_enter Try.func38, Try.ntmps38
  go_upto_region 4 with (fail)
  have HT1 : Hid (Turn (fun b => b = rg ∨ (Value.slice A R.length cap).ownBlock = some b) w (w.setCell ⟨rg, 0, none⟩ (.int .i64 t))) := Lib.hid ((Turn.set w ⟨rg, 0, none⟩ (.int .i64 t)).mono fun b _ e => .inl e)
  have N1 := Lib.hid (H.out.set0 t)
  have HSZ : Hid ((w.setCell ⟨rg, 0, none⟩ (.int .i64 t)).heap.size = w.heap.size) := Lib.hid (by simp)
  clear c0 f0
  generalize w.setCell ⟨rg, 0, none⟩ (.int .i64 t) = w1 at *
  have HRD0 : Hid (RdL layW w1 A R) := Lib.hid (by
    obtain ⟨A', cap', hsl, -, -, hrd, -⟩ := N1.out.own.form
    injection hsl with hA' _ _
    subst hA'
    exact hrd)
  have c0 : w1.cell? ⟨rg, 1, none⟩ = some (.slice A R.length cap) := N1.out.blk.cells 1
  go_wp2_with fail
  go_loopg [6] R.length (fun n v6 W => W = w1 ∧ ∃ (k : Nat), v6 = .int .i64 k ∧ n + k = R.length ∧ Hid (∀ j, j < k → (R.getD j default).at_ ≤ t))
  case atStart => exact ⟨rfl, 0, rfl, rfl, Lib.hid (fun j hj => absurd hj (Nat.not_lt_zero _))⟩
  case round =>
    obtain ⟨rfl, k, rfl, hnk, HI⟩ := hrel
    have HN := Lib.hid hnk
    have hkl : k ≤ R.length := by omega
    have HKL := Lib.hid hkl
    by_cases hk : k < R.length ∧ (R.getD k default).at_ ≤ t
    · obtain ⟨hk1, hkt⟩ := hk
      have hki : (k : Int) < (R.length : Int) := by omega
      obtain ⟨n, rfl⟩ : ∃ n, gk = n + 1 := ⟨gk - 1, by omega⟩
      obtain ⟨b, off, hAe, hbl, e0, e1⟩ := HRD0.out.itm k hk1
      have HKT := Lib.hid hkt
      obtain ⟨x, hx⟩ : ∃ x, x = (R.getD k default).at_ := ⟨_, rfl⟩
      rw [← hx] at e1 hkt
      have HAE := Lib.hid hAe
      have hk2 : (k : Int) + 1 ≤ 9223372036854775807 := by have := HL.out; omega
      have c0b : wr.cell? ⟨rg, 1, none⟩ = some (.slice (some ⟨b, off, none⟩) R.length cap) := by rw [← HAE.out]; exact c0
      clear hx hbl hnk hAe e0 c0 hkl
      go_wp2_with fail
      go_roundg n
      case rel => exact ⟨rfl, k + 1, by go_num, by have := HN.out; omega, Lib.hid (fun j hj => by
        rcases Nat.lt_succ_iff_lt_or_eq.1 hj with h | rfl
        · exact HI.out j h
        · exact HKT.out)⟩
      case measure => omega
    · have HUC : Hid ((Wh.upto t R).length = k) := Lib.hid (Wh.upto_count hs.out hkl HI.out (fun h => by
        rcases Int.lt_or_le t (R.getD k default).at_ with c | c
        · exact c
        · exact absurd ⟨h, c⟩ hk))
      have HK := Lib.hid hk
      clear hk hnk hkl
      go_upto_region 5 with (fail)
      go_cut [40] (fun s W => s = .bool false ∧ W = wr)
      case first =>
        by_cases hk1 : k < R.length
        · have hki : (k : Int) < (R.length : Int) := by omega
          obtain ⟨b, off, hAe, hbl, e0, e1⟩ := HRD0.out.itm k hk1
          obtain ⟨x, hx⟩ : ∃ x, x = (R.getD k default).at_ := ⟨_, rfl⟩
          have hxt : ¬ x ≤ t := fun h => HK.out ⟨hk1, by rw [← hx]; exact h⟩
          rw [← hx] at e1
          have HAE := Lib.hid hAe
          have c0b : wr.cell? ⟨rg, 1, none⟩ = some (.slice (some ⟨b, off, none⟩) R.length cap) := by rw [← HAE.out]; exact c0
          clear hx hbl hAe e0 c0
          go_wp2_with fail
          go_meet
          exact ⟨rfl, rfl⟩
        · have hki : ¬ (k : Int) < (R.length : Int) := by omega
          go_wp2_with fail
          go_meet
          exact ⟨rfl, rfl⟩
      case rest =>
        obtain ⟨rfl, rfl⟩ := hcut
        clear HK
        go_upto_region 7 with (fail)
        have HUT := Lib.hid (Wh.upto_take (t := t) hs.out)
        have hut := HUT.out
        rw [HUC.out] at hut
        have HU1 : Hid (Wh.upto t R = R.take k) := Lib.hid hut.1
        have HU2 : Hid (Wh.past t R = R.drop k) := Lib.hid hut.2
        clear hut HUT
        have HLIT := Lib.hid (OwnL.lit (L := layW) (e := 31) wc wc.heap.size (Nat.le_refl _) [] (by simp) #[] rfl)
        have HRD : Hid (RdL layW (wc.alloc (.cells #[] 31)) A (R.take k)) := Lib.hid ((HRD0.out.bel (bel_new (Below.refl wc.heap.size wc) _)).take k)
        have c1 : ∀ i, (wc.alloc (.cells #[] 31)).cell? ⟨rg, i, none⟩ = (#[.int .i64 t, .slice A R.length cap] : Array Value)[i]? := (N1.out.blk.alloc _).cells
        have hkc : k ≤ cap := by have := HCP.out; have := HKL.out; omega
        have hkt : k = (R.take k).length := by rw [List.length_take]; have := HKL.out; omega
        have HKT := Lib.hid hkt
        have hm1 : ([] : List Itm).length + (R.take k).length ≤ maxLen := by have := HL.out; unfold maxLen; simp; omega
        have hm2 : (([] : List Itm).length + (R.take k).length) * 16 ≤ 140737488355328 := by have := HL.out; simp; omega
        have hbn := Lib.hid (bel_new (Below.refl wc.heap.size wc) (.cells #[] 31))
        clear hkt c0
        go_upto_region 8 with (first
          | (refine wpList_to (L := layW) (t := 22) (e := 31) Try.underlying22 (by kernel_rfl) infoW rfl (.tmp 47) (.tmp 48) rfl A R.length cap rfl k rfl hkc HA3.out ?_)
          | (at_builtin; refine wpList_appO (L := layW) 22 _ 16 Try.underlying22 infoW rfl rfl (.tmp 43) (.tmp 49) rfl wc.heap.size _ [] rfl HLIT.out A k cap (R.take k) rfl HKT.out HRD.out hm1 hm2 (by simp) ?_; intro v1 w5 ho1 hg1 h31; have hb5 := Lib.hid (OwnL.grown HLIT.out hbn.out (by simp) hg1); rw [List.nil_append, ← HU1.out] at ho1; obtain ⟨A4, cp4, rfl, -, -, hr4, hl4⟩ := ho1.form; have HR4 := Lib.hid hr4; have HL4 := Lib.hid hl4; clear ho1 hg1 h31 hr4 hl4))
        have N5 := Lib.hid (N1.out.bel hb5.out)
        have HB5 := Lib.hid hb5.out
        have HFR : Hid (∀ b, b = rg ∨ (Value.slice A R.length cap).ownBlock = some b → b < wc.heap.size) := Lib.hid (fun b hb => by
          rcases hb with rfl | e
          · exact N1.out.blk.lt
          · exact N1.out.own.lt2 b e)
        have HRD5 := Lib.hid (HRD0.out.bel HB5.out)
        clear c1 hb5 hbn HRD HLIT hm1 hm2
        have HLIT := Lib.hid (OwnL.lit (L := layW) (e := 31) w5 w5.heap.size (Nat.le_refl _) [] (by simp) #[] rfl)
        have HRD : Hid (RdL layW (w5.alloc (.cells #[] 31)) A R) := Lib.hid (HRD5.out.bel (bel_new (Below.refl w5.heap.size w5) _))
        have c1 : ∀ i, (w5.alloc (.cells #[] 31)).cell? ⟨rg, i, none⟩ = (#[.int .i64 t, .slice A R.length cap] : Array Value)[i]? := (N5.out.blk.alloc _).cells
        have f1 : ∀ i, (w5.alloc (.cells #[] 31)).frozen? ⟨rg, i, none⟩ = false := (N5.out.blk.alloc _).free
        have hm1 : ([] : List Itm).length + (R.drop k).length ≤ maxLen := by have := HL.out; unfold maxLen; simp; omega
        have hm2 : (([] : List Itm).length + (R.drop k).length) * 16 ≤ 140737488355328 := by have := HL.out; simp; omega
        have hbn := Lib.hid (bel_new (Below.refl w5.heap.size w5) (.cells #[] 31))
        go_upto_region 9 with (first
          | (refine wpList_from (L := layW) (t := 22) (e := 31) Try.underlying22 (by kernel_rfl) infoW rfl (.tmp 56) (.tmp 57) rfl A R.length cap R rfl k rfl rfl HKL.out HCP.out HRD.out HA3.out ?_; intro A2 hA2; have HA2 := Lib.hid hA2; clear hA2)
          | (at_builtin; refine wpList_appO (L := layW) 22 _ 16 Try.underlying22 infoW rfl rfl (.tmp 52) (.tmp 58) rfl w5.heap.size _ [] rfl HLIT.out A2 (R.length - k) (cap - k) (R.drop k) rfl (by simp) HA2.out hm1 hm2 (by simp) ?_; intro v8 w8 ho8 hg8 h38; have hb8 := OwnL.grown HLIT.out hbn.out (by simp) hg8; rw [List.nil_append] at ho8; obtain ⟨Y, hY⟩ : ∃ Y, Y = R.drop k := ⟨_, rfl⟩; rw [← hY] at ho8; have HYY := Lib.hid hY; clear hY; have HO8 := Lib.hid (fun b hb => (World.ownsRow.lt ho8 b hb).1); obtain ⟨A8, cp8, rfl, -, -, -, -⟩ := ho8.form; have HP8 := Lib.hid (N5.out.put (ho8.low2 (by have := N5.out.lo; have := N5.out.blk.lt; omega)) (.bel hb8) (fun b e => .inr (HO8.out b e))); have HT8 : Hid (Turn (fun _ => False) w5 w8) := Lib.hid (.bel hb8); have hbl := N5.out.blk.bel hb8; have c0 : w8.cell? ⟨rg, 1, none⟩ = some (.slice A R.length cap) := hbl.cells 1; have f0 : w8.frozen? ⟨rg, 1, none⟩ = false := hbl.free 1; clear ho8 hg8 h38 hbl hb8))
        have HF4 : Hid (∀ b off, A4 = some ⟨b, off, none⟩ → ¬ (b = rg ∨ (Value.slice A R.length cap).ownBlock = some b)) := Lib.hid (fun b off e h => by
          have h1 := (HL4.out b off none e).1
          have h2 := HFR.out b h
          omega)
        clear c1 f1 c0 f0 HRD HLIT hm1 hm2 HA2 hbn
        go_wp2_with fail
        go_ret2
        unfold RAdv
        rw [HE.out, if_pos rfl, HU2.out, ← HYY.out]
        have ht := (HT1.out.trans (Turn.bel (B := fun _ => False) HB5.out) (fun b e => e.elim)).trans HP8.out.2 (fun b e => .inl e)
        exact ⟨A4, cp4, rfl, ⟨.slice A8 Y.length cp8, HP8.out.1, ht, fun b e => .inr (by have h1 := HO8.out b e; have h2 := HT1.out.size; have h3 := HB5.out.size; omega)⟩, HR4.out.turn HP8.out.2 HF4.out⟩
end Go.Proofs.Ytheocdfccdpmbaa
