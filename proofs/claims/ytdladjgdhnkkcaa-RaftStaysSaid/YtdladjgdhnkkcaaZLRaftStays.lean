/-
  RaftStays: whatever comes to a right node, it stays right.
  No condition.
-/
import Derived.Test.YtdladjgdhnkkcaaZRf31ToRf34
import Derived.Test.YtdladjgdhnkkcaaZTr1ToTr4
import Derived.Deep.RegionHeld3
import Derived.Deep.Cut
import Derived.Deep.DeepCutAuto
namespace Go.Proofs.Ytdladjgdhnkkcaa.lawRaftStays
open Go.ChangeShapes Go.WideShapes Go.ChangeAt Go.RowKit Go.Deep
set_option linter.unusedVariables false
set_option linter.unusedSimpArgs false
set_option maxHeartbeats 20000000

/-- the loop's state -/
structure SW (w : World) (len n k : Nat) (r : Nod) (x : NdX) (W : World) : Prop where
  sum : n + k = min len 200
  bel : Below w.heap.size w W
  blk : Blk W w.heap.size 48 (raftL r x).toArray
  rd : RdX w.heap.size W r x
  base : Rf.Base r
  role : Rf.Role r

/-- the two nodes of a round -/
structure St (w : World) (g6 : Nat) (r : Nod) (x : NdX) (q : Nod) (y : NdX) (W : World) : Prop where
  bel : Below w.heap.size w W
  blk : Blk W w.heap.size 48 (raftL r x).toArray
  blq : Blk W g6 48 (raftL q y).toArray
  rd : RdR W r x
  rdq : RdX w.heap.size W q y
  gt : w.heap.size < g6
theorem St.to {w : World} {g6 : Nat} {r : Nod} {x : NdX} {q : Nod} {y : NdX} {W W' : World} (h : St w g6 r x q y W) (hb : Below W.heap.size W W') : St w g6 r x q y W' :=
  ⟨bel_tr h.bel hb, h.blk.bel hb, h.blq.bel hb, h.rd.bel hb, h.rdq.bel h.blk hb, h.gt⟩

set_option maxRecDepth 100000 in
theorem walk (r : Nod) (x : NdX) (A : Option Addr) (cap : Nat) (xs : List DoW) (w : World) (h : Hid (RdR w r x)) (hS : Hid (RdL layDo w A xs)) (hO : Hid (∀ i, i < xs.length → (xs.getD i default).Ok w)) (hlc : xs.length ≤ cap) (hl : xs.length ≤ 20000000000000) :
    Calls Try.prog 8 #[raftV r x, .slice A xs.length cap] w fun e w' => e = .returned (.bool true) ∧ Below w.heap.size w w' := by
  have HB1 := Lib.hid (bel_new (Below.refl w.heap.size w) (.cells (raftL r x).toArray 48))
  have HK1 := Lib.hid (Blk.new w 48 (raftL r x).toArray)
  go_enter Try.func8, Try.ntmps8
  go_upto_region 1 with (fail)
  generalize w.alloc (.cells (raftL r x).toArray 48) = w1 at *
  go_wp2_with fail
  refine (raft_awake w1).mono ?_
  rintro e w2 ⟨rfl, hb2⟩
  have HB2 := Lib.hid (bel_tr HB1.out hb2)
  have HK2 := Lib.hid (HK1.out.bel hb2)
  clear hb2 HB1 HK1
  have HCK := Lib.hid (rfcheck_calls r x w2 (Lib.hid (h.out.bel HB2.out)))
  obtain ⟨c, hc⟩ : ∃ c, c = Rf.chk r := ⟨_, rfl⟩
  rw [← hc] at HCK
  have HC := Lib.hid hc
  clear hc
  go_wp2_with (refine wpList_loadB rfl 48 (.tmp 2) rfl w.heap.size rfl HK2.out Try.underlying48 infoR ?_)
  refine HCK.out.mono ?_
  rintro e w3 ⟨rfl, hb3⟩
  have HB3 := Lib.hid (bel_tr HB2.out hb3)
  have HK3 := Lib.hid (HK2.out.bel hb3)
  clear hb3 HB2 HK2 HCK
  cases c with
  | false =>
    go_wp2_with fail
    go_ret
    exact ⟨rfl, HB3.out⟩
  | true =>
    obtain ⟨hB, hRL⟩ := (Rf.chk_iff r).1 HC.out.symm
    have HI := Lib.hid (show SW w xs.length (min xs.length 200) 0 r x w3 from ⟨rfl, HB3.out, HK3.out, fun cs => h.out.bel (bel_row HB3.out (Nat.le_refl _) cs), hB, hRL⟩)
    clear hB hRL HB3 HK3 HC
    go_wp2_with fail
    go_loopg [5, 6, 7, 8, 9, 10] (min xs.length 200) (fun n v5 v6 v7 v8 v9 v10 W => ∃ (k : Nat) (r : Nod) (x : NdX), v5 = .int .i64 k ∧ Hid (SW w xs.length n k r x W))
    case atStart => exact ⟨0, r, x, rfl, HI⟩
    case round =>
      clear HI h
      obtain ⟨k, r, x, rfl, HI⟩ := hrel
      by_cases hk : k < xs.length ∧ k < 200
      · obtain ⟨hk1, hk2⟩ := hk
        have hki : (k : Int) < (xs.length : Int) := by omega
        have hkj : (k : Int) < 200 := by omega
        obtain ⟨n, rfl⟩ : ∃ n, gk = n + 1 := ⟨gk - 1, by have := HI.out.sum; omega⟩
        obtain ⟨b, off, hbA, hlt, hcl⟩ := hS.out k hk1
        subst hbA
        have hdo := hO.out k hk1
        obtain ⟨d, hd⟩ : ∃ d, d = xs.getD k default := ⟨_, rfl⟩
        rw [← hd] at hcl hdo
        have HDO := Lib.hid hdo
        have HCL := Lib.hid hcl
        have hwk : IntKind.i64.wrap (k : Int) = (k : Int) := IntWalk.i64_in _ (by omega)
        have HR8 : Hid (wr.drew.rangeAt b (off + k * 14) (DoW.cells d)) := Lib.hid (fun j v hv => ((HI.out.bel.drew).cell (p := ⟨b, off + k * 14 + j, none⟩) hlt).trans (hcl j v hv))
        obtain ⟨q, hq⟩ : ∃ q, q = Rf.does r d.kd d.dr d.m d.s d.to := ⟨_, rfl⟩
        have hst := Rf.does_go HI.out.base HI.out.role d.kd d.dr d.m d.s d.to
        have HDC := Lib.hid (fun (W : World) (hb : Below w.heap.size w W) (hr : Hid (RdR W r x)) => does_calls r x W hr d.kd d.dr d.m d.A d.cap d.s d.to (Lib.hid ⟨HDO.out.esl, HDO.out.es.bel hb⟩) HDO.out.es2 HDO.out.d0 HDO.out.d1 HDO.out.s2)
        rw [← hq] at hst HDC
        have HST := Lib.hid hst
        have HRD := Lib.hid (HI.out.rd.rd HI.out.blk)
        have HSZ : Hid (Sz q) := Lib.hid ⟨by have := (Qm.chk_asc HST.out.base.conf).2.2; omega, by have := Rf.es_le HST.out.base; omega, by have := Rf.votes_le HST.out.base HST.out.role; omega, Rf.next_le HST.out.base HST.out.role, Rf.mtch_le HST.out.base HST.out.role⟩
        have hbs : ((some ⟨b, off, none⟩ : Option Addr)) = some ⟨b, off, none⟩ := rfl
        clear hd hcl hdo hst hq hbs
        go_upto_region 8 with (fail)
        go_cut [6] (fun s6 W => ∃ (y : NdX) (g6 : Nat), s6 = .pointer (some ⟨g6, 0, none⟩) ∧ Hid (St w g6 r x q y W))
        case first =>
          refine wp_region_heldD (S := fun W => Blk W w.heap.size 48 (raftL r x).toArray ∧ W.rangeAt b (off + k * 14) (DoW.cells d)) (by kernel_rfl) ?_
          have hS8 : Blk wr.drew w.heap.size 48 (raftL r x).toArray ∧ wr.drew.rangeAt b (off + k * 14) (DoW.cells d) := ⟨HI.out.blk, HR8.out⟩
          refine wpAnyH_take (i := 0) (v := .agg (raftL r x).toArray) rfl (by kernel_rfl) (by kernel_rfl) (by kernel_rfl) (fun _ _ _ h => h) (yieldsIf_load_mid rfl _ _ rfl w.heap.size 0 rfl (raftL r x) _ (fun W hW => Blk.range hW.1 _ rfl) Try.underlying48 rfl infoR) hS8 ?_
          try simp only [Act.put, List.getElem_toArray, List.getElem_cons_zero, List.getElem_cons_succ, List.setIfInBounds_toArray, List.set_cons_zero, List.set_cons_succ]
          refine wpAnyH_take (i := 1) (v := .slice (some ⟨b, off, none⟩) xs.length cap) rfl (by kernel_rfl) (by kernel_rfl) (by kernel_rfl) (fun _ _ _ h => h) (Or.inl ⟨by rfl, fun W hW => by go_simp⟩) hS8 ?_
          try simp only [Act.put, List.getElem_toArray, List.getElem_cons_zero, List.getElem_cons_succ, List.setIfInBounds_toArray, List.set_cons_zero, List.set_cons_succ]
          refine wpAnyH_take (i := 2) (v := .int .i64 k) rfl (by kernel_rfl) (by kernel_rfl) (by kernel_rfl) (fun _ _ _ h => h) (Or.inl ⟨by rfl, fun W hW => by go_simp⟩) hS8 ?_
          try simp only [Act.put, List.getElem_toArray, List.getElem_cons_zero, List.getElem_cons_succ, List.setIfInBounds_toArray, List.set_cons_zero, List.set_cons_succ]
          refine wpAnyH_take (i := 3) (v := .pointer (some ⟨b, off + k * 14, none⟩)) rfl (by kernel_rfl) (by kernel_rfl) (by kernel_rfl) (fun _ _ _ h => h) (Or.inl ⟨by rfl, fun W hW => by go_simp⟩) hS8 ?_
          try simp only [Act.put, List.getElem_toArray, List.getElem_cons_zero, List.getElem_cons_succ, List.setIfInBounds_toArray, List.set_cons_zero, List.set_cons_succ]
          refine wpAnyH_take (i := 4) (v := .agg (DoW.cells d).toArray) rfl (by kernel_rfl) (by kernel_rfl) (by kernel_rfl) (fun _ _ _ h => h) (yieldsIf_load_mid rfl _ _ rfl b (off + k * 14) rfl (DoW.cells d) _ (fun W hW => hW.2) Try.underlying55 rfl (by kernel_rfl)) hS8 ?_
          try simp only [Act.put, List.getElem_toArray, List.getElem_cons_zero, List.getElem_cons_succ, List.setIfInBounds_toArray, List.set_cons_zero, List.set_cons_succ]
          refine wpAnyH_two (i := 5) (j := 6) (by kernel_rfl) rfl rfl rfl rfl ?_ ?_
          · intro K hK
            simp only [List.getElem_toArray, List.getElem_cons_succ, List.getElem_cons_zero]
            go_simp
            have HBW := Lib.hid (bel_tr HI.out.bel (bel_drew (Below.refl wr.heap.size wr)))
            refine (HDC.out wr.drew HBW.out (Lib.hid (HRD.out.bel (bel_drew (Below.refl _ _))))).mono ?_
            rintro e w9 ⟨⟨y, col, LV, rfl, hR9⟩, hb9⟩
            have HR9 := Lib.hid hR9
            have HB9 := Lib.hid (bel_tr HBW.out hb9)
            have HG : Hid (w.heap.size < w9.heap.size) := Lib.hid (Nat.lt_of_lt_of_le HI.out.blk.lt hb9.size)
            have hS9 : Blk w9 w.heap.size 48 (raftL r x).toArray ∧ w9.rangeAt b (off + k * 14) (DoW.cells d) := ⟨HI.out.blk.bel (bel_tr (bel_drew (Below.refl wr.heap.size wr)) hb9), fun j v hv => ((HB9.out).cell (p := ⟨b, off + k * 14 + j, none⟩) hlt).trans (HCL.out j v hv)⟩
            have HRr := Lib.hid (HRD.out.bel (bel_tr (bel_drew (Below.refl wr.heap.size wr)) hb9))
            refine hK _ _ hS9 ?_
            clear hK K hR9 hb9
            try simp only [Act.put, List.getElem_toArray, List.getElem_cons_zero, List.getElem_cons_succ, List.setIfInBounds_toArray, List.set_cons_zero, List.set_cons_succ]
            refine wpAnyH_one (i := 6) (by kernel_rfl) rfl rfl ?_
            intro K hK
            simp only [List.getElem_toArray, List.getElem_cons_succ, List.getElem_cons_zero]
            go_simp
            have hbn := bel_new (Below.refl w9.heap.size w9) (.cells #[.int .i64 0, .slice none 0 0, .int .i64 0, .int .i64 0, .int .i64 0, .int .i64 0, .int .i64 0, .int .i64 0, .slice none 0 0, .string ⟨#[]⟩, .int .i64 0, .int .i64 0, .int .i64 0, .slice none 0 0, .slice none 0 0, .slice none 0 0] 48)
            refine hK _ _ ⟨hS9.1.bel hbn, fun j v hv => (hbn.cell (p := ⟨b, off + k * 14 + j, none⟩) (Nat.lt_of_lt_of_le hlt HB9.out.size)).trans (hS9.2 j v hv)⟩ ?_
            clear hK K
            try simp only [Act.put, List.getElem_toArray, List.getElem_cons_zero, List.getElem_cons_succ, List.setIfInBounds_toArray, List.set_cons_zero, List.set_cons_succ]
            have HZ := Lib.hid (Blk.new w9 48 #[.int .i64 0, .slice none 0 0, .int .i64 0, .int .i64 0, .int .i64 0, .int .i64 0, .int .i64 0, .int .i64 0, .slice none 0 0, .string ⟨#[]⟩, .int .i64 0, .int .i64 0, .int .i64 0, .slice none 0 0, .slice none 0 0, .slice none 0 0])
            refine wpAnyH_one (i := 7) (by kernel_rfl) rfl rfl ?_
            intro K hK
            simp only [List.getElem_toArray, List.getElem_cons_succ, List.getElem_cons_zero]
            have hbn2 := bel_row hbn (Nat.le_refl _) (raftL q y).toArray
            have hS8n : Blk ((w9.alloc (.cells #[.int .i64 0, .slice none 0 0, .int .i64 0, .int .i64 0, .int .i64 0, .int .i64 0, .int .i64 0, .int .i64 0, .slice none 0 0, .string ⟨#[]⟩, .int .i64 0, .int .i64 0, .int .i64 0, .slice none 0 0, .slice none 0 0, .slice none 0 0] 48)).setRow w9.heap.size (raftL q y).toArray) w.heap.size 48 (raftL r x).toArray ∧ ((w9.alloc (.cells #[.int .i64 0, .slice none 0 0, .int .i64 0, .int .i64 0, .int .i64 0, .int .i64 0, .int .i64 0, .int .i64 0, .slice none 0 0, .string ⟨#[]⟩, .int .i64 0, .int .i64 0, .int .i64 0, .slice none 0 0, .slice none 0 0, .slice none 0 0] 48)).setRow w9.heap.size (raftL q y).toArray).rangeAt b (off + k * 14) (DoW.cells d) := ⟨hS9.1.bel hbn2, fun j v hv => (hbn2.cell (p := ⟨b, off + k * 14 + j, none⟩) (Nat.lt_of_lt_of_le hlt HB9.out.size)).trans (hS9.2 j v hv)⟩
            refine wp_store_row _ _ _ rfl w9.heap.size (raftL q y).toArray rfl rfl _ _ HZ.out infoR rfl (raftL_one _ _) (hK _ _ hS8n ?_)
            clear hK K
            try simp only [Act.put, List.getElem_toArray, List.getElem_cons_zero, List.getElem_cons_succ, List.setIfInBounds_toArray, List.set_cons_zero, List.set_cons_succ]
            have HQ8 := Lib.hid (HZ.out.rowSame (raftL q y).toArray)
            have HB8 := Lib.hid (bel_tr HB9.out hbn2)
            have HRq8 := Lib.hid ((HR9.out.bel hbn2).rdX (g := w.heap.size) HI.out.blk.lt HSZ.out)
            have HRr8 := Lib.hid (HRr.out.bel hbn2)
            have HS8 := Lib.hid hS8n
            refine ⟨by kernel_rfl, ?_⟩
            go_wp2_with fail
            go_meet
            exact ⟨y, w9.heap.size, rfl, Lib.hid ⟨HB8.out, HS8.out.1, HQ8.out, HRr8.out, HRq8.out, HG.out⟩⟩
          · intro K hK
            simp only [List.getElem_toArray, List.getElem_cons_succ, List.getElem_cons_zero]
            go_simp
            have HBW := Lib.hid (bel_new (bel_tr HI.out.bel (bel_drew (Below.refl wr.heap.size wr))) (.cells #[.int .i64 0, .slice none 0 0, .int .i64 0, .int .i64 0, .int .i64 0, .int .i64 0, .int .i64 0, .int .i64 0, .slice none 0 0, .string ⟨#[]⟩, .int .i64 0, .int .i64 0, .int .i64 0, .slice none 0 0, .slice none 0 0, .slice none 0 0] 48))
            have hbn : Below wr.heap.size wr (wr.drew.alloc (.cells #[.int .i64 0, .slice none 0 0, .int .i64 0, .int .i64 0, .int .i64 0, .int .i64 0, .int .i64 0, .int .i64 0, .slice none 0 0, .string ⟨#[]⟩, .int .i64 0, .int .i64 0, .int .i64 0, .slice none 0 0, .slice none 0 0, .slice none 0 0] 48)) := bel_new (bel_drew (Below.refl _ _)) _
            have HBN := Lib.hid hbn
            have HZ := Lib.hid (Blk.new wr.drew 48 #[.int .i64 0, .slice none 0 0, .int .i64 0, .int .i64 0, .int .i64 0, .int .i64 0, .int .i64 0, .int .i64 0, .slice none 0 0, .string ⟨#[]⟩, .int .i64 0, .int .i64 0, .int .i64 0, .slice none 0 0, .slice none 0 0, .slice none 0 0])
            have hS9 : Blk (wr.drew.alloc (.cells #[.int .i64 0, .slice none 0 0, .int .i64 0, .int .i64 0, .int .i64 0, .int .i64 0, .int .i64 0, .int .i64 0, .slice none 0 0, .string ⟨#[]⟩, .int .i64 0, .int .i64 0, .int .i64 0, .slice none 0 0, .slice none 0 0, .slice none 0 0] 48)) w.heap.size 48 (raftL r x).toArray ∧ (wr.drew.alloc (.cells #[.int .i64 0, .slice none 0 0, .int .i64 0, .int .i64 0, .int .i64 0, .int .i64 0, .int .i64 0, .int .i64 0, .slice none 0 0, .string ⟨#[]⟩, .int .i64 0, .int .i64 0, .int .i64 0, .slice none 0 0, .slice none 0 0, .slice none 0 0] 48)).rangeAt b (off + k * 14) (DoW.cells d) := ⟨HI.out.blk.bel hbn, fun j v hv => ((HBW.out).cell (p := ⟨b, off + k * 14 + j, none⟩) hlt).trans (HCL.out j v hv)⟩
            have HG : Hid (w.heap.size < wr.heap.size) := Lib.hid HI.out.blk.lt
            have HGL : Hid (wr.heap.size < (wr.drew.alloc (.cells #[.int .i64 0, .slice none 0 0, .int .i64 0, .int .i64 0, .int .i64 0, .int .i64 0, .int .i64 0, .int .i64 0, .slice none 0 0, .string ⟨#[]⟩, .int .i64 0, .int .i64 0, .int .i64 0, .slice none 0 0, .slice none 0 0, .slice none 0 0] 48)).heap.size) := Lib.hid HZ.out.lt
            refine hK _ _ hS9 ?_
            clear hK K hbn
            try simp only [Act.put, List.getElem_toArray, List.getElem_cons_zero, List.getElem_cons_succ, List.setIfInBounds_toArray, List.set_cons_zero, List.set_cons_succ]
            refine wpAnyH_one (i := 5) (by kernel_rfl) rfl rfl ?_
            intro K hK
            simp only [List.getElem_toArray, List.getElem_cons_succ, List.getElem_cons_zero]
            go_simp
            refine (HDC.out (wr.drew.alloc (.cells #[.int .i64 0, .slice none 0 0, .int .i64 0, .int .i64 0, .int .i64 0, .int .i64 0, .int .i64 0, .int .i64 0, .slice none 0 0, .string ⟨#[]⟩, .int .i64 0, .int .i64 0, .int .i64 0, .slice none 0 0, .slice none 0 0, .slice none 0 0] 48)) HBW.out (Lib.hid (HRD.out.bel HBN.out))).mono ?_
            rintro e w9 ⟨⟨y, col, LV, rfl, hR9⟩, hb9⟩
            have HR9 := Lib.hid hR9
            have HB9 := Lib.hid (bel_tr HBW.out hb9)
            have HBN9 := Lib.hid (bel_tr HBN.out hb9)
            have HZ9 := Lib.hid (HZ.out.bel hb9)
            have hS10 : Blk w9 w.heap.size 48 (raftL r x).toArray ∧ w9.rangeAt b (off + k * 14) (DoW.cells d) := ⟨hS9.1.bel hb9, fun j v hv => ((HB9.out).cell (p := ⟨b, off + k * 14 + j, none⟩) hlt).trans (HCL.out j v hv)⟩
            refine hK _ _ hS10 ?_
            clear hK K hR9 hb9 hS9 HZ
            try simp only [Act.put, List.getElem_toArray, List.getElem_cons_zero, List.getElem_cons_succ, List.setIfInBounds_toArray, List.set_cons_zero, List.set_cons_succ]
            refine wpAnyH_one (i := 7) (by kernel_rfl) rfl rfl ?_
            intro K hK
            simp only [List.getElem_toArray, List.getElem_cons_succ, List.getElem_cons_zero]
            have hbn2 : Below w.heap.size w (w9.setRow wr.heap.size (raftL q y).toArray) := bel_row HB9.out (Nat.le_of_lt HG.out) (raftL q y).toArray
            have hbn3 : Below wr.heap.size wr (w9.setRow wr.heap.size (raftL q y).toArray) := bel_row HBN9.out (Nat.le_refl _) (raftL q y).toArray
            have hS8n : Blk (w9.setRow wr.heap.size (raftL q y).toArray) w.heap.size 48 (raftL r x).toArray ∧ (w9.setRow wr.heap.size (raftL q y).toArray).rangeAt b (off + k * 14) (DoW.cells d) := ⟨hS10.1.rowFar (Nat.ne_of_lt HG.out) _, fun j v hv => (hbn2.cell (p := ⟨b, off + k * 14 + j, none⟩) hlt).trans (HCL.out j v hv)⟩
            refine wp_store_row _ _ _ rfl wr.heap.size (raftL q y).toArray rfl rfl _ _ HZ9.out infoR rfl (raftL_one _ _) (hK _ _ hS8n ?_)
            clear hK K
            try simp only [Act.put, List.getElem_toArray, List.getElem_cons_zero, List.getElem_cons_succ, List.setIfInBounds_toArray, List.set_cons_zero, List.set_cons_succ]
            have HQ8 := Lib.hid (HZ9.out.rowSame (raftL q y).toArray)
            have HB8 := Lib.hid hbn2
            have HRq8 := Lib.hid ((Rest.row1 HR9.out.lowCol (lowCol_lt HGL.out) (raftL q y).toArray).rdX (g := w.heap.size) (Nat.lt_trans HG.out HGL.out) HSZ.out)
            have HRr8 := Lib.hid (HRD.out.bel hbn3)
            have HS8 := Lib.hid hS8n
            refine ⟨by kernel_rfl, ?_⟩
            go_wp2_with fail
            go_meet
            exact ⟨y, wr.heap.size, rfl, Lib.hid ⟨HB8.out, HS8.out.1, HQ8.out, HRr8.out, HRq8.out, HG.out⟩⟩
        case rest =>
          obtain ⟨y, g6, rfl, HC8⟩ := hcut
          clear HDC HSZ HR8
          have HN := Lib.hid HI.out.sum
          have HCQ := Lib.hid (rfcheck_calls q y wc (Lib.hid (HC8.out.rdq.rd HC8.out.blk)))
          rw [HST.out.chk] at HCQ
          go_upto_region 9 with (fail)
          go_cut [76] (fun s76 W => s76 = .bool false ∧ Hid (St w g6 r x q y W))
          case first =>
            go_wp2_with (refine wpList_loadB rfl 48 (.tmp 6) rfl g6 rfl HC8.out.blq Try.underlying48 infoR ?_)
            refine HCQ.out.mono ?_
            rintro e w9 ⟨rfl, hb9⟩
            have HC9 := Lib.hid (HC8.out.to hb9)
            clear hb9 HC8 HCQ
            have hA : ∀ i, w9.cell? ⟨w.heap.size, i, none⟩ = (#[.int .i64 r.id, .slice x.cA r.conf.length x.cc, .int .i64 r.term, .int .i64 r.vote, .int .i64 r.role, .int .i64 r.leader, .int .i64 r.b, .int .i64 r.bt, .slice x.eA r.es.length x.ec, .string r.snap, .int .i64 r.commit, .int .i64 r.left, .int .i64 r.wait, .slice x.vA r.votes.length x.vc, .slice x.nA r.next.length x.nc, .slice x.mA r.mtch.length x.mc] : Array Value)[i]? := HC9.out.blk.cells
            have hC : ∀ i, w9.cell? ⟨g6, i, none⟩ = (#[.int .i64 q.id, .slice y.cA q.conf.length y.cc, .int .i64 q.term, .int .i64 q.vote, .int .i64 q.role, .int .i64 q.leader, .int .i64 q.b, .int .i64 q.bt, .slice y.eA q.es.length y.ec, .string q.snap, .int .i64 q.commit, .int .i64 q.left, .int .i64 q.wait, .slice y.vA q.votes.length y.vc, .slice y.nA q.next.length y.nc, .slice y.mA q.mtch.length y.mc] : Array Value)[i]? := HC9.out.blq.cells
            have e1 : (q.id != r.id) = false := by rw [HST.out.id]; simp
            have e2 : (q.conf.length != r.conf.length) = false := by rw [HST.out.conf]; simp
            have e2i : ((q.conf.length : Int) != (r.conf.length : Int)) = false := by rw [HST.out.conf]; simp
            have e3 : decide (q.term < r.term) = false := decide_eq_false (by have := HST.out.term; omega)
            by_cases ht : q.term = r.term
            · have b1 : (q.term == r.term) = true := by simp [ht]
              have HT := Lib.hid ht
              clear ht
              by_cases hv : r.vote = 0
              · have b2 : (r.vote != 0) = false := by simp [hv]
                clear hv
                go_wp2_with fail
                go_meet
                exact ⟨rfl, HC9⟩
              · have b2 : (r.vote != 0) = true := by simp [hv]
                have b3 : (q.vote != r.vote) = false := by rw [HST.out.vote HT.out hv]; simp
                clear hv
                go_wp2_with fail
                go_meet
                exact ⟨rfl, HC9⟩
            · have b1 : (q.term == r.term) = false := by simp [ht]
              clear ht
              go_wp2_with fail
              go_meet
              exact ⟨rfl, HC9⟩
          case rest =>
            obtain ⟨rfl, HC9⟩ := hcut
            clear HC8 HCQ
            go_upto_region 11 with (fail)
            go_cut [103] (fun s W => s = .bool false ∧ Hid (St w g6 r x q y W))
            case first =>
              have hcd : ∀ W, Hid (St w g6 r x q y W) → W.cell? ⟨b, off + k * 14, none⟩ = some (.int .i64 d.kd) := fun W hW => (hW.out.bel.cell (p := ⟨b, off + k * 14, none⟩) hlt).trans (HCL.out 0 _ rfl)
              have hE := hcd _ HC9
              have HCD := Lib.hid hcd
              clear hcd
              by_cases hk0 : 0 ≤ d.kd
              · by_cases hk3 : d.kd ≤ 3
                · obtain ⟨hcm, hkp⟩ := HST.out.kept hk0 hk3
                  have HKC := Lib.hid (kept_calls r q x y wc (Lib.hid HC9.out.rd) (Lib.hid (HC9.out.rdq.rd HC9.out.blk)) (Lib.hid HI.out.base) (Lib.hid HST.out.base) (Lib.hid hkp))
                  have hC : ∀ i, wc.cell? ⟨w.heap.size, i, none⟩ = (#[.int .i64 r.id, .slice x.cA r.conf.length x.cc, .int .i64 r.term, .int .i64 r.vote, .int .i64 r.role, .int .i64 r.leader, .int .i64 r.b, .int .i64 r.bt, .slice x.eA r.es.length x.ec, .string r.snap, .int .i64 r.commit, .int .i64 r.left, .int .i64 r.wait, .slice x.vA r.votes.length x.vc, .slice x.nA r.next.length x.nc, .slice x.mA r.mtch.length x.mc] : Array Value)[i]? := HC9.out.blk.cells
                  have hD : ∀ i, wc.cell? ⟨g6, i, none⟩ = (#[.int .i64 q.id, .slice y.cA q.conf.length y.cc, .int .i64 q.term, .int .i64 q.vote, .int .i64 q.role, .int .i64 q.leader, .int .i64 q.b, .int .i64 q.bt, .slice y.eA q.es.length y.ec, .string q.snap, .int .i64 q.commit, .int .i64 q.left, .int .i64 q.wait, .slice y.vA q.votes.length y.vc, .slice y.nA q.next.length y.nc, .slice y.mA q.mtch.length y.mc] : Array Value)[i]? := HC9.out.blq.cells
                  have hcn : ¬ q.commit < r.commit := by omega
                  clear hkp hcm
                  go_wp2_with (first | (refine wpList_loadB rfl 48 (.tmp 2) rfl w.heap.size rfl HC9.out.blk Try.underlying48 infoR ?_) | (refine wpList_loadB rfl 48 (.tmp 6) rfl g6 rfl HC9.out.blq Try.underlying48 infoR ?_))
                  refine HKC.out.mono ?_
                  rintro e w11 ⟨rfl, hb11⟩
                  have HC11 := Lib.hid (HC9.out.to hb11)
                  clear hb11 HC9 HKC hC hD
                  go_wp2_with fail
                  go_meet
                  exact ⟨rfl, HC11⟩
                · go_wp2_with fail
                  go_meet
                  exact ⟨rfl, HC9⟩
              · go_wp2_with fail
                go_meet
                exact ⟨rfl, HC9⟩
            case rest =>
              obtain ⟨rfl, HC11⟩ := hcut
              clear HC9
              have hA : ∀ i, wc.cell? ⟨w.heap.size, i, none⟩ = (#[.int .i64 r.id, .slice x.cA r.conf.length x.cc, .int .i64 r.term, .int .i64 r.vote, .int .i64 r.role, .int .i64 r.leader, .int .i64 r.b, .int .i64 r.bt, .slice x.eA r.es.length x.ec, .string r.snap, .int .i64 r.commit, .int .i64 r.left, .int .i64 r.wait, .slice x.vA r.votes.length x.vc, .slice x.nA r.next.length x.nc, .slice x.mA r.mtch.length x.mc] : Array Value)[i]? := HC11.out.blk.cells
              have hC : ∀ i, wc.cell? ⟨g6, i, none⟩ = (#[.int .i64 q.id, .slice y.cA q.conf.length y.cc, .int .i64 q.term, .int .i64 q.vote, .int .i64 q.role, .int .i64 q.leader, .int .i64 q.b, .int .i64 q.bt, .slice y.eA q.es.length y.ec, .string q.snap, .int .i64 q.commit, .int .i64 q.left, .int .i64 q.wait, .slice y.vA q.votes.length y.vc, .slice y.nA q.next.length y.nc, .slice y.mA q.mtch.length y.mc] : Array Value)[i]? := HC11.out.blq.cells
              have hex : ∀ W, Hid (St w g6 r x q y W) → Hid (SW w xs.length n (k + 1) q y (W.setRow w.heap.size (raftL q y).toArray)) := fun W hW => Lib.hid ⟨by have := HN.out; omega, bel_row hW.out.bel (Nat.le_refl _) _, hW.out.blk.rowSame _, hW.out.rdq.row _, HST.out.base, HST.out.role⟩
              have HEX := Lib.hid hex
              clear hex
              by_cases h1 : r.role = 2
              · have b1 : (r.role == 2) = true := by simp [h1]
                by_cases h2 : q.role = 2
                · have b2 : (q.role == 2) = true := by simp [h2]
                  by_cases h3 : q.term = r.term
                  · have b3 : (q.term == r.term) = true := by simp [h3]
                    have hle := HST.out.lead h1 h2 h3
                    clear h1 h2 h3
                    obtain ⟨la, hla⟩ : ∃ la, la = Tr.lastN r.b r.bt r.es := ⟨_, rfl⟩
                    obtain ⟨lb, hlb⟩ : ∃ lb, lb = Tr.lastN q.b q.bt q.es := ⟨_, rfl⟩
                    have hnl : ¬ lb < la := by omega
                    have HL1 := Lib.hid (rlast2_calls r.b r.bt x.eA x.ec r.es wc HC11.out.rd.es (by have := HC11.out.rd.es2; omega))
                    have HL2 := Lib.hid (fun W (hW : St w g6 r x q y W) => rlast2_calls q.b q.bt y.eA y.ec q.es W (hW.rdq.rd hW.blk).es (by have := (hW.rdq.rd hW.blk).es2; omega))
                    rw [← hla] at HL1
                    rw [← hlb] at HL2
                    clear hla hlb hle
                    go_wp2_with fail
                    refine HL1.out.mono ?_
                    rintro e w12 ⟨rfl, hb12⟩
                    have HC12 := Lib.hid (HC11.out.to hb12)
                    clear hb12 HL1 hA hC
                    have hC : ∀ i, w12.cell? ⟨g6, i, none⟩ = (#[.int .i64 q.id, .slice y.cA q.conf.length y.cc, .int .i64 q.term, .int .i64 q.vote, .int .i64 q.role, .int .i64 q.leader, .int .i64 q.b, .int .i64 q.bt, .slice y.eA q.es.length y.ec, .string q.snap, .int .i64 q.commit, .int .i64 q.left, .int .i64 q.wait, .slice y.vA q.votes.length y.vc, .slice y.nA q.next.length y.nc, .slice y.mA q.mtch.length y.mc] : Array Value)[i]? := HC12.out.blq.cells
                    go_wp2_with fail
                    refine (HL2.out w12 HC12.out).mono ?_
                    rintro e w13 ⟨rfl, hb13⟩
                    have HC13 := Lib.hid (HC12.out.to hb13)
                    clear hb13 HL2 hC HC11 HC12
                    go_upto_region 18 with (fail)
                    have hex := HEX.out _ HC13
                    have HX := Lib.hid hex
                    clear hex HEX
                    go_wp2_with (first | (refine wpList_loadB rfl 48 (.tmp 6) rfl g6 rfl HC13.out.blq Try.underlying48 infoR ?_) | (refine wpList_storeB rfl 48 (.tmp 2) (.tmp 134) rfl w.heap.size (raftL q y).toArray rfl rfl HC13.out.blk infoR rfl (raftL_one _ _) ?_))
                    go_roundg n
                    case rel => exact ⟨k + 1, q, y, by go_num, HX⟩
                    case measure => omega
                  · have b3 : (q.term == r.term) = false := by simp [h3]
                    clear h1 h2 h3
                    go_upto_region 18 with (fail)
                    clear hA hC
                    have hex := HEX.out _ HC11
                    have HX := Lib.hid hex
                    clear hex HEX
                    go_wp2_with (first | (refine wpList_loadB rfl 48 (.tmp 6) rfl g6 rfl HC11.out.blq Try.underlying48 infoR ?_) | (refine wpList_storeB rfl 48 (.tmp 2) (.tmp 134) rfl w.heap.size (raftL q y).toArray rfl rfl HC11.out.blk infoR rfl (raftL_one _ _) ?_))
                    go_roundg n
                    case rel => exact ⟨k + 1, q, y, by go_num, HX⟩
                    case measure => omega
                · have b2 : (q.role == 2) = false := by simp [h2]
                  clear h1 h2
                  go_upto_region 18 with (fail)
                  clear hA hC
                  have hex := HEX.out _ HC11
                  have HX := Lib.hid hex
                  clear hex HEX
                  go_wp2_with (first | (refine wpList_loadB rfl 48 (.tmp 6) rfl g6 rfl HC11.out.blq Try.underlying48 infoR ?_) | (refine wpList_storeB rfl 48 (.tmp 2) (.tmp 134) rfl w.heap.size (raftL q y).toArray rfl rfl HC11.out.blk infoR rfl (raftL_one _ _) ?_))
                  go_roundg n
                  case rel => exact ⟨k + 1, q, y, by go_num, HX⟩
                  case measure => omega
              · have b1 : (r.role == 2) = false := by simp [h1]
                clear h1
                go_upto_region 18 with (fail)
                clear hA hC
                have hex := HEX.out _ HC11
                have HX := Lib.hid hex
                clear hex HEX
                go_wp2_with (first | (refine wpList_loadB rfl 48 (.tmp 6) rfl g6 rfl HC11.out.blq Try.underlying48 infoR ?_) | (refine wpList_storeB rfl 48 (.tmp 2) (.tmp 134) rfl w.heap.size (raftL q y).toArray rfl rfl HC11.out.blk infoR rfl (raftL_one _ _) ?_))
                go_roundg n
                case rel => exact ⟨k + 1, q, y, by go_num, HX⟩
                case measure => omega
      · by_cases hk1 : k < xs.length
        · have hki : (k : Int) < (xs.length : Int) := by omega
          have hkj : ¬ (k : Int) < 200 := by omega
          go_wp2_with fail
          go_ret
          exact ⟨rfl, HI.out.bel⟩
        · have hki : ¬ (k : Int) < (xs.length : Int) := by omega
          go_wp2_with fail
          go_ret
          exact ⟨rfl, HI.out.bel⟩

set_option maxRecDepth 100000 in
theorem walks {H : Type} (enc : TypeId × Value → H) : Walks enc Try.prog 8 Try.f8 := by
  intro W base args ds ps hval hA hwt
  rw [Try.params8] at hA hval hwt
  obtain ⟨v0, vs0, d0, ds0, p0, q0, hargs, rfl, rfl, h0, r0⟩ := trodAll_cons hA
  obtain ⟨v1, vs1, d1, ds1, p1, q1, rfl, rfl, rfl, h1, r1⟩ := trodAll_cons r0
  obtain ⟨rfl, rfl, rfl⟩ := trodAll_nil r1
  obtain rfl : args = #[v0, v1] := by cases args; simp_all
  obtain ⟨r, x, rfl, hr⟩ := raft_arg (hval 0 48 v0 rfl rfl) h0 (weightsEach_at (i := 0) hwt rfl rfl)
  obtain ⟨A, xs, cap, rfl, a1, b1, c1, g1⟩ := script_arg (hval 1 49 v1 rfl rfl) h1 (weightsEach_at (i := 1) hwt rfl rfl)
  exact walk r x A cap xs W (Lib.hid hr) (Lib.hid c1) (Lib.hid g1) a1 (by omega)

set_option maxRecDepth 100000 in
theorem lifted (os : Os) (started : os.Started) (H : Type) (enc : TypeId × Value → H) :
    ReturnsInHanded {} Try.checked os 8 .any (Rows.raftStaysSpec.pre6 enc Try.prog Try.f8 Rows.raftStaysRow.domain false) (Rows.raftStaysSpec.post enc Try.prog Try.f8 false true false false) :=
  frame_lifted (C := Try.checked) own started (by kernel_rfl) Try.func8
    (ChangeSpec.witness6 (enc := enc) (C := Try.checked) false ⟨#[], #[.agg #[.int .i64 0, .slice none 0 0, .int .i64 0, .int .i64 0, .int .i64 0, .int .i64 0, .int .i64 0, .int .i64 0, .slice none 0 0, .string ⟨#[]⟩, .int .i64 0, .int .i64 0, .int .i64 0, .slice none 0 0, .slice none 0 0, .slice none 0 0], .slice none 0 0], []⟩ 8 (by kernel_rfl) (by kernel_rfl) (by kernel_rfl) (by kernel_rfl)) laidOut (by kernel_rfl) rfl (by rfl) Try.underlying4
    (fun ds h => match ds, h with | [d0, d1], _ => ⟨rfl, rfl, rfl⟩) (walks enc)

theorem over : Rows.raftStaysRow.holds Try.pinned (OpenSpec.ofChange Rows.raftStaysSpec) :=
  OpenClaim.holds_of_wide 8 Try.f8 rfl rfl rfl rfl rfl rfl rfl ⟨rfl, rfl, rfl, rfl, rfl⟩ rfl rfl rfl rfl rfl (by kernel_rfl) Try.func8 (by kernel_rfl)
    (of_decide_eq_true (by kernel_rfl)) (by unfold Func.isWrapper; first | (rw [if_pos (by decide +kernel)]; kernel_rfl) | (rw [if_neg (by decide +kernel)]; exact ⟨rfl, rfl⟩))
    (fun os started H enc _ => lifted os started H enc)

/-- the statement -/
theorem proved : Rows.RaftStaysSaid := over
end Go.Proofs.Ytdladjgdhnkkcaa.lawRaftStays
