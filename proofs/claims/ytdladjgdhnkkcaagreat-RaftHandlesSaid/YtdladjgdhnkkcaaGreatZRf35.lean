
/-
  Contract: a node copied by the reference.
  Conditions: the node can be read.
-/
import Derived.Test.YtdladjgdhnkkcaaGreatZRf23
import Derived.Deep.Cut
namespace Go.Proofs.YtdladjgdhnkkcaaGreat
open Go.RowKit
set_option linter.unusedVariables false
set_option linter.unusedSimpArgs false
set_option maxHeartbeats 4000000

/-- the copy under way: what has been copied is new memory -/
structure CpS (w : World) (r0 : Nod) (x0 : NdX) (r : Nod) (xr xc : NdX) (W : World) : Prop where
  bel : Below w.heap.size w W
  lo : w.heap.size + 2 ≤ W.heap.size
  box : Blk W w.heap.size 28 (raftL r0 xc).toArray
  zr : Blk W (w.heap.size + 1) 28 (raftL ⟨0, [], 0, 0, 0, 0, 0, 0, [], ⟨#[]⟩, 0, 0, 0, [], [], []⟩ ⟨none, 0, none, 0, none, 0, none, 0, none, 0, none, 0⟩).toArray
  rest : ∃ col, col w.heap.size = 1 ∧ col (w.heap.size + 1) = 1 ∧ Rest w.heap.size col r xr [] W
section
variable {w : World} {r0 : Nod} {x0 : NdX} {r : Nod} {xr xc : NdX} {W w2 : World} {A : Option Addr} {c : Nat}
theorem CpS.conf (h : CpS w r0 x0 r xr xc W) (hb : Below W.heap.size W w2) (ho : OwnL (layI .i64) 3 w2 W.heap.size (.slice A r0.conf.length c) r0.conf) :
    CpS w r0 x0 { r with conf := r0.conf } { xr with cA := A, cc := c } { xc with cA := A, cc := c } (w2.setCell ⟨w.heap.size, 1, none⟩ (.slice A r0.conf.length c)) := by
  obtain ⟨col, h1, h2, h3⟩ := h.rest
  have hl := h.lo
  have e1 : recol col W.heap.size 6 w.heap.size = 1 := (recol_old (by omega)).trans h1
  have e2 : recol col W.heap.size 6 (w.heap.size + 1) = 1 := (recol_old (by omega)).trans h2
  refine ⟨bel_set (bel_tr h.bel hb) (Nat.le_refl _) 1 _, by have := hb.size; simp; omega, ?_, (h.zr.bel hb).far (p := ⟨w.heap.size, 1, none⟩) (by simp) _, recol col W.heap.size 6, e1, e2, (h3.conf_new hb ho).set1 (p := ⟨w.heap.size, 1, none⟩) e1 _⟩
  have := (h.box.bel hb).set 1 (.slice A r0.conf.length c)
  simpa only [raftL, List.setIfInBounds_toArray, List.set_cons_succ, List.set_cons_zero] using this
theorem CpS.votes (h : CpS w r0 x0 r xr xc W) (hb : Below W.heap.size W w2) (ho : OwnL (layI .i64) 3 w2 W.heap.size (.slice A r0.votes.length c) r0.votes) :
    CpS w r0 x0 { r with votes := r0.votes } { xr with vA := A, vc := c } { xc with vA := A, vc := c } (w2.setCell ⟨w.heap.size, 13, none⟩ (.slice A r0.votes.length c)) := by
  obtain ⟨col, h1, h2, h3⟩ := h.rest
  have hl := h.lo
  have e1 : recol col W.heap.size 2 w.heap.size = 1 := (recol_old (by omega)).trans h1
  have e2 : recol col W.heap.size 2 (w.heap.size + 1) = 1 := (recol_old (by omega)).trans h2
  refine ⟨bel_set (bel_tr h.bel hb) (Nat.le_refl _) 13 _, by have := hb.size; simp; omega, ?_, (h.zr.bel hb).far (p := ⟨w.heap.size, 13, none⟩) (by simp) _, recol col W.heap.size 2, e1, e2, (h3.votes_new hb ho).set1 (p := ⟨w.heap.size, 13, none⟩) e1 _⟩
  have := (h.box.bel hb).set 13 (.slice A r0.votes.length c)
  simpa only [raftL, List.setIfInBounds_toArray, List.set_cons_succ, List.set_cons_zero] using this
theorem CpS.next (h : CpS w r0 x0 r xr xc W) (hb : Below W.heap.size W w2) (ho : OwnL (layI .i64) 2 w2 W.heap.size (.slice A r0.next.length c) r0.next) :
    CpS w r0 x0 { r with next := r0.next } { xr with nA := A, nc := c } { xc with nA := A, nc := c } (w2.setCell ⟨w.heap.size, 14, none⟩ (.slice A r0.next.length c)) := by
  obtain ⟨col, h1, h2, h3⟩ := h.rest
  have hl := h.lo
  have e1 : recol col W.heap.size 3 w.heap.size = 1 := (recol_old (by omega)).trans h1
  have e2 : recol col W.heap.size 3 (w.heap.size + 1) = 1 := (recol_old (by omega)).trans h2
  refine ⟨bel_set (bel_tr h.bel hb) (Nat.le_refl _) 14 _, by have := hb.size; simp; omega, ?_, (h.zr.bel hb).far (p := ⟨w.heap.size, 14, none⟩) (by simp) _, recol col W.heap.size 3, e1, e2, (h3.next_new hb ho).set1 (p := ⟨w.heap.size, 14, none⟩) e1 _⟩
  have := (h.box.bel hb).set 14 (.slice A r0.next.length c)
  simpa only [raftL, List.setIfInBounds_toArray, List.set_cons_succ, List.set_cons_zero] using this
theorem CpS.mtch (h : CpS w r0 x0 r xr xc W) (hb : Below W.heap.size W w2) (ho : OwnL (layI .i64) 2 w2 W.heap.size (.slice A r0.mtch.length c) r0.mtch) :
    CpS w r0 x0 { r with mtch := r0.mtch } { xr with mA := A, mc := c } { xc with mA := A, mc := c } (w2.setCell ⟨w.heap.size, 15, none⟩ (.slice A r0.mtch.length c)) := by
  obtain ⟨col, h1, h2, h3⟩ := h.rest
  have hl := h.lo
  have e1 : recol col W.heap.size 4 w.heap.size = 1 := (recol_old (by omega)).trans h1
  have e2 : recol col W.heap.size 4 (w.heap.size + 1) = 1 := (recol_old (by omega)).trans h2
  refine ⟨bel_set (bel_tr h.bel hb) (Nat.le_refl _) 15 _, by have := hb.size; simp; omega, ?_, (h.zr.bel hb).far (p := ⟨w.heap.size, 15, none⟩) (by simp) _, recol col W.heap.size 4, e1, e2, (h3.mtch_new hb ho).set1 (p := ⟨w.heap.size, 15, none⟩) e1 _⟩
  have := (h.box.bel hb).set 15 (.slice A r0.mtch.length c)
  simpa only [raftL, List.setIfInBounds_toArray, List.set_cons_succ, List.set_cons_zero] using this
theorem CpS.es (h : CpS w r0 x0 r xr xc W) (hb : Below W.heap.size W w2) (ho : OwnE w2 W.heap.size (.slice A r0.es.length c) r0.es) :
    CpS w r0 x0 { r with b := r0.b, bt := r0.bt, es := r0.es } { xr with eA := A, ec := c } { xc with eA := A, ec := c } (w2.setCell ⟨w.heap.size, 8, none⟩ (.slice A r0.es.length c)) := by
  obtain ⟨col, h1, h2, h3⟩ := h.rest
  have hl := h.lo
  have e1 : recol col W.heap.size 0 w.heap.size = 1 := (recol_old (by omega)).trans h1
  have e2 : recol col W.heap.size 0 (w.heap.size + 1) = 1 := (recol_old (by omega)).trans h2
  refine ⟨bel_set (bel_tr h.bel hb) (Nat.le_refl _) 8 _, by have := hb.size; simp; omega, ?_, (h.zr.bel hb).far (p := ⟨w.heap.size, 8, none⟩) (by simp) _, recol col W.heap.size 0, e1, e2, (h3.log hb r0.b r0.bt ho).set1 (p := ⟨w.heap.size, 8, none⟩) e1 _⟩
  have := (h.box.bel hb).set 8 (.slice A r0.es.length c)
  simpa only [raftL, List.setIfInBounds_toArray, List.set_cons_succ, List.set_cons_zero] using this
end

set_option maxRecDepth 100000 in
theorem copy14_calls (r : Nod) (x : NdX) (w : World) (h : Hid (RdR w r x)) : Calls Tryz.prog 25 #[raftV r x] w (CopyR w r) := by
  obtain ⟨id, conf, term, vote, role, leader, b, bt, es, snap, commit, left, wait, votes, next, mtch⟩ := r
  obtain ⟨cA, cc, eA, ec, vA, vc, nA, nc, mA, mc, oA, oc⟩ := x
  have HSZ_conf : Hid (conf.length ≤ 20000000000000) := Lib.hid h.out.conf2
  have HSZ_votes : Hid (votes.length ≤ 20000000000000) := Lib.hid h.out.votes2
  have HSZ_next : Hid (next.length ≤ 20000000000000) := Lib.hid h.out.next2
  have HSZ_mtch : Hid (mtch.length ≤ 20000000000000) := Lib.hid h.out.mtch2
  have HSZ_es : Hid (es.length ≤ 6000000000000) := Lib.hid h.out.es2
  have HS1 : Hid (CpS w ⟨id, conf, term, vote, role, leader, b, bt, es, snap, commit, left, wait, votes, next, mtch⟩ ⟨cA, cc, eA, ec, vA, vc, nA, nc, mA, mc, oA, oc⟩ ⟨id, [], term, vote, role, leader, b, bt, [], snap, commit, left, wait, [], [], []⟩ ⟨none, 0, none, 0, none, 0, none, 0, none, 0, none, 0⟩ ⟨cA, cc, eA, ec, vA, vc, nA, nc, mA, mc, oA, oc⟩ ((w.alloc (.cells #[.int .i64 id, .slice cA conf.length cc, .int .i64 term, .int .i64 vote, .int .i64 role, .int .i64 leader, .int .i64 b, .int .i64 bt, .slice eA es.length ec, .string snap, .int .i64 commit, .int .i64 left, .int .i64 wait, .slice vA votes.length vc, .slice nA next.length nc, .slice mA mtch.length mc] 28)).alloc (.cells #[.int .i64 0, .slice none 0 0, .int .i64 0, .int .i64 0, .int .i64 0, .int .i64 0, .int .i64 0, .int .i64 0, .slice none 0 0, .string ⟨#[]⟩, .int .i64 0, .int .i64 0, .int .i64 0, .slice none 0 0, .slice none 0 0, .slice none 0 0] 28))) := Lib.hid
    ⟨bel_new (bel_new (Below.refl w.heap.size w) _) _, by rw [size_alloc, size_alloc]; exact Nat.le_refl _, (Blk.new w _ _).alloc _, Blk.new2 w _ _ _, fun _ => 1, rfl, rfl, (Rest.none0 w.heap.size w (Nat.le_refl _) id term vote role leader b bt snap commit left wait).bel (bel_new (bel_new (Below.refl w.heap.size w) _) _)⟩
  go_enter Tryz.func25, Tryz.ntmps25
  go_upto_region 1 with (fail)
  generalize (w.alloc (.cells #[.int .i64 id, .slice cA conf.length cc, .int .i64 term, .int .i64 vote, .int .i64 role, .int .i64 leader, .int .i64 b, .int .i64 bt, .slice eA es.length ec, .string snap, .int .i64 commit, .int .i64 left, .int .i64 wait, .slice vA votes.length vc, .slice nA next.length nc, .slice mA mtch.length mc] 28)).alloc (.cells #[.int .i64 0, .slice none 0 0, .int .i64 0, .int .i64 0, .int .i64 0, .int .i64 0, .int .i64 0, .int .i64 0, .slice none 0 0, .string ⟨#[]⟩, .int .i64 0, .int .i64 0, .int .i64 0, .slice none 0 0, .slice none 0 0, .slice none 0 0] 28) = w1 at *
  have HN1 := Lib.hid (bel_new (Below.refl w1.heap.size w1) (.cells #[] 3))
  have HL1 := Lib.hid (OwnL.lit (L := layI .i64) (e := 3) w1 w1.heap.size (Nat.le_refl _) [] (by simp) #[] rfl)
  have cE : ∀ i, (w1.alloc (.cells #[] 3)).cell? ⟨w.heap.size, i, none⟩ = (#[.int .i64 id, .slice cA conf.length cc, .int .i64 term, .int .i64 vote, .int .i64 role, .int .i64 leader, .int .i64 b, .int .i64 bt, .slice eA es.length ec, .string snap, .int .i64 commit, .int .i64 left, .int .i64 wait, .slice vA votes.length vc, .slice nA next.length nc, .slice mA mtch.length mc] : Array Value)[i]? := (HS1.out.box.alloc (.cells #[] 3)).cells
  go_upto_region 2 with (first
    | (at_builtin
       refine wpList_appL (L := layI .i64) 22 _ 8 Tryz.underlying22 infoI rfl rfl (.tmp 3) (.tmp 5) rfl w1.heap.size _ [] rfl HL1.out cA conf.length cc conf rfl rfl ((h.out.conf.bel HS1.out.bel).bel HN1.out) (by have := HSZ_conf.out; simp [maxLen]; omega) (by have := HSZ_conf.out; simp; omega) (by simp) ?_
       intro v2 w2' ho2 hg2
       have hb2 := Lib.hid (OwnL.grown HL1.out HN1.out (by simp) hg2)
       rw [List.nil_append] at ho2
       have cF : ∀ i, w2'.cell? ⟨w.heap.size, i, none⟩ = (#[.int .i64 id, .slice cA conf.length cc, .int .i64 term, .int .i64 vote, .int .i64 role, .int .i64 leader, .int .i64 b, .int .i64 bt, .slice eA es.length ec, .string snap, .int .i64 commit, .int .i64 left, .int .i64 wait, .slice vA votes.length vc, .slice nA next.length nc, .slice mA mtch.length mc] : Array Value)[i]? := (HS1.out.box.bel hb2.out).cells
       have fF := (HS1.out.box.bel hb2.out).free
       have HO2 := Lib.hid ho2
       obtain ⟨A2, c2, rfl, hc2, hm2, _⟩ := ho2.form
       clear hg2 cE))
  have HS2 := Lib.hid (HS1.out.conf hb2.out HO2.out)
  dsimp only at HS2
  clear cF fF hb2 HO2 ho2 HS1 HN1 HL1
  generalize w2'.setCell ⟨w.heap.size, 1, none⟩ (.slice A2 conf.length c2) = w2 at *
  clear hc2 hm2
  have HN2 := Lib.hid (bel_new (Below.refl w2.heap.size w2) (.cells #[] 3))
  have HL2 := Lib.hid (OwnL.lit (L := layI .i64) (e := 3) w2 w2.heap.size (Nat.le_refl _) [] (by simp) #[] rfl)
  have cE : ∀ i, (w2.alloc (.cells #[] 3)).cell? ⟨w.heap.size, i, none⟩ = (#[.int .i64 id, .slice A2 conf.length c2, .int .i64 term, .int .i64 vote, .int .i64 role, .int .i64 leader, .int .i64 b, .int .i64 bt, .slice eA es.length ec, .string snap, .int .i64 commit, .int .i64 left, .int .i64 wait, .slice vA votes.length vc, .slice nA next.length nc, .slice mA mtch.length mc] : Array Value)[i]? := (HS2.out.box.alloc (.cells #[] 3)).cells
  go_upto_region 3 with (first
    | (at_builtin
       refine wpList_appL (L := layI .i64) 22 _ 8 Tryz.underlying22 infoI rfl rfl (.tmp 8) (.tmp 10) rfl w2.heap.size _ [] rfl HL2.out vA votes.length vc votes rfl rfl ((h.out.votes.bel HS2.out.bel).bel HN2.out) (by have := HSZ_votes.out; simp [maxLen]; omega) (by have := HSZ_votes.out; simp; omega) (by simp) ?_
       intro v2 w2' ho2 hg2
       have hb2 := Lib.hid (OwnL.grown HL2.out HN2.out (by simp) hg2)
       rw [List.nil_append] at ho2
       have cF : ∀ i, w2'.cell? ⟨w.heap.size, i, none⟩ = (#[.int .i64 id, .slice A2 conf.length c2, .int .i64 term, .int .i64 vote, .int .i64 role, .int .i64 leader, .int .i64 b, .int .i64 bt, .slice eA es.length ec, .string snap, .int .i64 commit, .int .i64 left, .int .i64 wait, .slice vA votes.length vc, .slice nA next.length nc, .slice mA mtch.length mc] : Array Value)[i]? := (HS2.out.box.bel hb2.out).cells
       have fF := (HS2.out.box.bel hb2.out).free
       have HO2 := Lib.hid ho2
       obtain ⟨A3, c3, rfl, hc2, hm2, _⟩ := ho2.form
       clear hg2 cE))
  have HS3 := Lib.hid (HS2.out.votes hb2.out HO2.out)
  dsimp only at HS3
  clear cF fF hb2 HO2 ho2 HS2 HN2 HL2
  generalize w2'.setCell ⟨w.heap.size, 13, none⟩ (.slice A3 votes.length c3) = w3 at *
  clear hc2 hm2
  have HN3 := Lib.hid (bel_new (Below.refl w3.heap.size w3) (.cells #[] 2))
  have HL3 := Lib.hid (OwnL.lit (L := layI .i64) (e := 2) w3 w3.heap.size (Nat.le_refl _) [] (by simp) #[] rfl)
  have cE : ∀ i, (w3.alloc (.cells #[] 2)).cell? ⟨w.heap.size, i, none⟩ = (#[.int .i64 id, .slice A2 conf.length c2, .int .i64 term, .int .i64 vote, .int .i64 role, .int .i64 leader, .int .i64 b, .int .i64 bt, .slice eA es.length ec, .string snap, .int .i64 commit, .int .i64 left, .int .i64 wait, .slice A3 votes.length c3, .slice nA next.length nc, .slice mA mtch.length mc] : Array Value)[i]? := (HS3.out.box.alloc (.cells #[] 2)).cells
  go_upto_region 4 with (first
    | (at_builtin
       refine wpList_appL (L := layI .i64) 26 _ 8 Tryz.underlying26 infoL rfl rfl (.tmp 13) (.tmp 15) rfl w3.heap.size _ [] rfl HL3.out nA next.length nc next rfl rfl ((h.out.next.bel HS3.out.bel).bel HN3.out) (by have := HSZ_next.out; simp [maxLen]; omega) (by have := HSZ_next.out; simp; omega) (by simp) ?_
       intro v2 w2' ho2 hg2
       have hb2 := Lib.hid (OwnL.grown HL3.out HN3.out (by simp) hg2)
       rw [List.nil_append] at ho2
       have cF : ∀ i, w2'.cell? ⟨w.heap.size, i, none⟩ = (#[.int .i64 id, .slice A2 conf.length c2, .int .i64 term, .int .i64 vote, .int .i64 role, .int .i64 leader, .int .i64 b, .int .i64 bt, .slice eA es.length ec, .string snap, .int .i64 commit, .int .i64 left, .int .i64 wait, .slice A3 votes.length c3, .slice nA next.length nc, .slice mA mtch.length mc] : Array Value)[i]? := (HS3.out.box.bel hb2.out).cells
       have fF := (HS3.out.box.bel hb2.out).free
       have HO2 := Lib.hid ho2
       obtain ⟨A4, c4, rfl, hc2, hm2, _⟩ := ho2.form
       clear hg2 cE))
  have HS4 := Lib.hid (HS3.out.next hb2.out HO2.out)
  dsimp only at HS4
  clear cF fF hb2 HO2 ho2 HS3 HN3 HL3
  generalize w2'.setCell ⟨w.heap.size, 14, none⟩ (.slice A4 next.length c4) = w4 at *
  clear hc2 hm2
  have HN4 := Lib.hid (bel_new (Below.refl w4.heap.size w4) (.cells #[] 2))
  have HL4 := Lib.hid (OwnL.lit (L := layI .i64) (e := 2) w4 w4.heap.size (Nat.le_refl _) [] (by simp) #[] rfl)
  have cE : ∀ i, (w4.alloc (.cells #[] 2)).cell? ⟨w.heap.size, i, none⟩ = (#[.int .i64 id, .slice A2 conf.length c2, .int .i64 term, .int .i64 vote, .int .i64 role, .int .i64 leader, .int .i64 b, .int .i64 bt, .slice eA es.length ec, .string snap, .int .i64 commit, .int .i64 left, .int .i64 wait, .slice A3 votes.length c3, .slice A4 next.length c4, .slice mA mtch.length mc] : Array Value)[i]? := (HS4.out.box.alloc (.cells #[] 2)).cells
  go_upto_region 5 with (first
    | (at_builtin
       refine wpList_appL (L := layI .i64) 26 _ 8 Tryz.underlying26 infoL rfl rfl (.tmp 18) (.tmp 20) rfl w4.heap.size _ [] rfl HL4.out mA mtch.length mc mtch rfl rfl ((h.out.mtch.bel HS4.out.bel).bel HN4.out) (by have := HSZ_mtch.out; simp [maxLen]; omega) (by have := HSZ_mtch.out; simp; omega) (by simp) ?_
       intro v2 w2' ho2 hg2
       have hb2 := Lib.hid (OwnL.grown HL4.out HN4.out (by simp) hg2)
       rw [List.nil_append] at ho2
       have cF : ∀ i, w2'.cell? ⟨w.heap.size, i, none⟩ = (#[.int .i64 id, .slice A2 conf.length c2, .int .i64 term, .int .i64 vote, .int .i64 role, .int .i64 leader, .int .i64 b, .int .i64 bt, .slice eA es.length ec, .string snap, .int .i64 commit, .int .i64 left, .int .i64 wait, .slice A3 votes.length c3, .slice A4 next.length c4, .slice mA mtch.length mc] : Array Value)[i]? := (HS4.out.box.bel hb2.out).cells
       have fF := (HS4.out.box.bel hb2.out).free
       have HO2 := Lib.hid ho2
       obtain ⟨A5, c5, rfl, hc2, hm2, _⟩ := ho2.form
       clear hg2 cE))
  have HS5 := Lib.hid (HS4.out.mtch hb2.out HO2.out)
  dsimp only at HS5
  clear cF fF hb2 HO2 ho2 HS4 HN4 HL4
  generalize w2'.setCell ⟨w.heap.size, 15, none⟩ (.slice A5 mtch.length c5) = w5 at *
  clear hc2 hm2
  have HN5 := Lib.hid (bel_new (Below.refl w5.heap.size w5) (.cells #[] 68))
  have HL5 := Lib.hid (OwnE.lit w5 w5.heap.size (Nat.le_refl _) [] (by simp) #[] rfl)
  have cE : ∀ i, (w5.alloc (.cells #[] 68)).cell? ⟨w.heap.size, i, none⟩ = (#[.int .i64 id, .slice A2 conf.length c2, .int .i64 term, .int .i64 vote, .int .i64 role, .int .i64 leader, .int .i64 b, .int .i64 bt, .slice eA es.length ec, .string snap, .int .i64 commit, .int .i64 left, .int .i64 wait, .slice A3 votes.length c3, .slice A4 next.length c4, .slice A5 mtch.length c5] : Array Value)[i]? := (HS5.out.box.alloc (.cells #[] 68)).cells
  go_upto_region 6 with (first
    | (at_builtin
       refine wpList_appW rfl (.tmp 23) (.tmp 26) rfl w5.heap.size _ [] rfl HL5.out eA es.length ec es rfl rfl ((h.out.es.bel HS5.out.bel).bel HN5.out) (by have := HSZ_es.out; simp only [List.length_nil]; omega) (by simp) ?_
       intro v2 w2' ho2 hg2
       have hb2 := Lib.hid (OwnE.grown HL5.out HN5.out (by simp) hg2)
       rw [List.nil_append] at ho2
       have cF : ∀ i, w2'.cell? ⟨w.heap.size, i, none⟩ = (#[.int .i64 id, .slice A2 conf.length c2, .int .i64 term, .int .i64 vote, .int .i64 role, .int .i64 leader, .int .i64 b, .int .i64 bt, .slice eA es.length ec, .string snap, .int .i64 commit, .int .i64 left, .int .i64 wait, .slice A3 votes.length c3, .slice A4 next.length c4, .slice A5 mtch.length c5] : Array Value)[i]? := (HS5.out.box.bel hb2.out).cells
       have fF := (HS5.out.box.bel hb2.out).free
       have HO2 := Lib.hid ho2
       obtain ⟨A6, c6, rfl, hc2, _⟩ := ho2.form
       clear hg2 cE))
  have HS6 := Lib.hid (HS5.out.es hb2.out HO2.out)
  dsimp only at HS6
  clear cF fF hb2 HO2 ho2 HS5 HN5 HL5
  generalize w2'.setCell ⟨w.heap.size, 8, none⟩ (.slice A6 es.length c6) = w6 at *
  clear hc2
  obtain ⟨col, hc1, hc2, hR⟩ := HS6.out.rest
  go_wp2_with (first
    | (refine wpList_loadB rfl 28 (.tmp 1) rfl w.heap.size rfl HS6.out.box Tryz.underlying28 infoR ?_)
    | (refine wpList_storeB rfl 28 (.tmp 2) (.tmp 30) rfl (w.heap.size + 1) (raftL ⟨id, conf, term, vote, role, leader, b, bt, es, snap, commit, left, wait, votes, next, mtch⟩ ⟨A2, c2, A6, c6, A3, c3, A4, c4, A5, c5, oA, oc⟩).toArray rfl rfl HS6.out.zr infoR rfl (raftL_one _ _) ?_))
  have hld := run_loadVarB (P := Tryz.prog) (HS6.out.zr.rowSame (raftL ⟨id, conf, term, vote, role, leader, b, bt, es, snap, commit, left, wait, votes, next, mtch⟩ ⟨A2, c2, A6, c6, A3, c3, A4, c4, A5, c5, oA, oc⟩).toArray) 28 Tryz.underlying28 infoR
  refine bodyPost_ret (v := raftV ⟨id, conf, term, vote, role, leader, b, bt, es, snap, commit, left, wait, votes, next, mtch⟩ ⟨A2, c2, A6, c6, A3, c3, A4, c4, A5, c5, oA, oc⟩) (by simp [results, Tryz.results25, asAddr, hld, Act.put]) rfl ?_
  exact ⟨⟨⟨A2, c2, A6, c6, A3, c3, A4, c4, A5, c5, oA, oc⟩, col, rfl, Rest.row1 hR hc2 _⟩, bel_row HS6.out.bel (Nat.le_succ _) _⟩
end Go.Proofs.YtdladjgdhnkkcaaGreat
