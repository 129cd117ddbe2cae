/-
  RaftVotes: in one term a node gives its voice to one node at most.
  No condition.
-/
import Derived.Test.YtdladjgdhnkkcaaZRf31ToRf34
import Derived.BigQuiet
import Derived.Deep.Cut
import Derived.Deep.DeepCutAuto
namespace Go.Proofs.Ytdladjgdhnkkcaa.lawRaftVotes
open Go.ChangeShapes Go.WideShapes Go.ChangeAt Go.RowKit Go.Deep
set_option linter.unusedVariables false
set_option linter.unusedSimpArgs false
set_option maxHeartbeats 20000000

/-- the loop's state -/
structure SV (w : World) (len n k : Nat) (r : Nod) (x : NdX) (W : World) : Prop where
  sum : n + k = min len 100
  bel : Below w.heap.size w W
  blk : Blk W w.heap.size 48 (raftL r x).toArray
  rd : RdX w.heap.size W r x
  base : Rf.Base r
  role : Rf.Role r
/-- the two nodes of a round, and what is sent -/
structure Sv2 (w : World) (g7 : Nat) (r : Nod) (x : NdX) (q : Nod) (y : NdX) (LV : List MsgV) (W : World) : Prop where
  bel : Below w.heap.size w W
  blk : Blk W w.heap.size 48 (raftL r x).toArray
  blq : Blk W g7 48 (raftL q y).toArray
  rdq : RdX w.heap.size W q y
  out : RdL layM W y.oA LV
  outl : LV.length ≤ y.oc
  outc : y.oc ≤ 9223372036854775807
  gt : w.heap.size < g7
theorem Sv2.to {w : World} {g7 : Nat} {r : Nod} {x : NdX} {q : Nod} {y : NdX} {LV : List MsgV} {W W' : World} (h : Sv2 w g7 r x q y LV W) (hb : Below W.heap.size W W') : Sv2 w g7 r x q y LV W' :=
  ⟨bel_tr h.bel hb, h.blk.bel hb, h.blq.bel hb, h.rdq.bel h.blk hb, h.out.bel hb, h.outl, h.outc, h.gt⟩
theorem voice_of {r q : Nod} {Ms : List Msg} {LV : List MsgV} (hm : LV.map (·.m) = Ms) (hv : ∀ l ∈ Ms, Rf.Voice r q l) (j : Nat) (hj : j < LV.length) : Rf.Voice r q (LV.getD j default).m := by
  refine hv _ ?_
  rw [← hm]
  have e : LV.getD j default = LV[j] := by simp [List.getD, hj]
  exact List.mem_map.2 ⟨LV.getD j default, by rw [e]; exact List.getElem_mem hj, rfl⟩

set_option maxRecDepth 100000 in
theorem walk (r : Nod) (x : NdX) (A : Option Addr) (cap : Nat) (xs : List MsgV) (w : World) (h : Hid (RdR w r x)) (hS : Hid (RdL layM w A xs)) (hO : Hid (∀ i, i < xs.length → (xs.getD i default).Ok w)) (hlc : xs.length ≤ cap) (hl : xs.length ≤ 20000000000000) :
    Calls Try.prog 16 #[raftV r x, .slice A xs.length cap] w fun e w' => e = .returned (.bool true) ∧ Below w.heap.size w w' := by
  have HB1 := Lib.hid (bel_new (Below.refl w.heap.size w) (.cells (raftL r x).toArray 48))
  have HK1 := Lib.hid (Blk.new w 48 (raftL r x).toArray)
  go_enter Try.func16, Try.ntmps16
  go_upto_region 1 with (fail)
  generalize w.alloc (.cells (raftL r x).toArray 48) = w1 at *
  go_wp2_with fail
  refine (raft_awake w1).mono ?_
  rintro e w2 ⟨rfl, hb2⟩
  have HB2 := Lib.hid (bel_tr HB1.out hb2)
  have HK2 := Lib.hid (HK1.out.bel hb2)
  clear hb2 HB1 HK1
  have HCK := Lib.hid (rfcheck_calls r x w2 (Lib.hid (h.out.bel HB2.out)))
  obtain ⟨c, hc⟩ : ∃ c, c = Rf.chk r := ⟨_, rfl⟩
  rw [← hc] at HCK
  have HC := Lib.hid hc
  clear hc
  go_wp2_with (refine wpList_loadB rfl 48 (.tmp 2) rfl w.heap.size rfl HK2.out Try.underlying48 infoR ?_)
  refine HCK.out.mono ?_
  rintro e w3 ⟨rfl, hb3⟩
  have HB3 := Lib.hid (bel_tr HB2.out hb3)
  have HK3 := Lib.hid (HK2.out.bel hb3)
  clear hb3 HB2 HK2 HCK
  cases c with
  | false =>
    go_wp2_with fail
    go_ret
    exact ⟨rfl, HB3.out⟩
  | true =>
    obtain ⟨hB, hRL⟩ := (Rf.chk_iff r).1 HC.out.symm
    have HI := Lib.hid (show SV w xs.length (min xs.length 100) 0 r x w3 from ⟨rfl, HB3.out, HK3.out, fun cs => h.out.bel (bel_row HB3.out (Nat.le_refl _) cs), hB, hRL⟩)
    clear hB hRL HB3 HK3 HC
    go_wp2_with fail
    go_loopg [5, 6, 7, 8, 9] (min xs.length 100) (fun n v5 v6 v7 v8 v9 W => ∃ (k : Nat) (r : Nod) (x : NdX), v5 = .int .i64 k ∧ Hid (SV w xs.length n k r x W))
    case atStart => exact ⟨0, r, x, rfl, HI⟩
    case round =>
      clear HI h
      obtain ⟨k, r, x, rfl, HI⟩ := hrel
      by_cases hk : k < xs.length ∧ k < 100
      · obtain ⟨hk1, hk2⟩ := hk
        have hki : (k : Int) < (xs.length : Int) := by omega
        have hkj : (k : Int) < 100 := by omega
        obtain ⟨n, rfl⟩ : ∃ n, gk = n + 1 := ⟨gk - 1, by have := HI.out.sum; omega⟩
        obtain ⟨b, off, hbA, hlt, hcl⟩ := hS.out k hk1
        subst hbA
        have hdo := hO.out k hk1
        obtain ⟨d, hd⟩ : ∃ d, d = xs.getD k default := ⟨_, rfl⟩
        rw [← hd] at hcl hdo
        have HDO := Lib.hid hdo
        have HN := Lib.hid HI.out.sum
        have HR8 : Hid (wr.rangeAt b (off + k * 10) (MsgV.cells d)) := Lib.hid (fun j v hv => ((HI.out.bel).cell (p := ⟨b, off + k * 10 + j, none⟩) hlt).trans (hcl j v hv))
        obtain ⟨m, hm⟩ : ∃ m : Msg, m = { d.m with kind := 1, dst := r.id } := ⟨_, rfl⟩
        obtain ⟨q, hq⟩ : ∃ q, q = (Rf.handle r m).1 := ⟨_, rfl⟩
        obtain ⟨Ms, hMs⟩ : ∃ Ms, Ms = (Rf.handle r m).2 := ⟨_, rfl⟩
        obtain ⟨hgo, hro, _⟩ := Rf.handle_go HI.out.base HI.out.role m
        have hvo := Rf.handle_voice r m (by rw [hm])
        rw [← hq] at hgo hro hvo
        rw [← hMs] at hvo
        have HGO := Lib.hid hgo
        have HRO := Lib.hid hro
        have HVO := Lib.hid hvo
        have hes : m.es = d.m.es := by rw [hm]
        have HHC := Lib.hid (fun (W : World) (hb : Below w.heap.size w W) (hr : Hid (RdR W r x)) => handle_calls r x W hr m d.A d.cap (Lib.hid ⟨by rw [hes]; exact HDO.out.1, by rw [hes]; exact HDO.out.2.1.bel hb⟩) (by rw [hes]; exact HDO.out.2.2))
        rw [← hq, ← hMs] at HHC
        have HMV : Hid (msgV m d.A d.cap = .agg #[.int .i64 1, .int .i64 d.m.src, .int .i64 r.id, .int .i64 d.m.term, .int .i64 d.m.index, .int .i64 d.m.lterm, .int .i64 d.m.commit, .bool d.m.yes, .slice d.A d.m.es.length d.cap, .string d.m.data]) := Lib.hid (by rw [hm])
        rw [HMV.out] at HHC
        have HSZ : Hid (Sz q) := Lib.hid ⟨by have := (Qm.chk_asc HGO.out.base.conf).2.2; omega, by have := Rf.es_le HGO.out.base; omega, by have := Rf.votes_le HGO.out.base HRO.out; omega, Rf.next_le HGO.out.base HRO.out, Rf.mtch_le HGO.out.base HRO.out⟩
        clear hd hcl hdo hgo hro hvo hq hMs hm hes HMV HDO
        have HZ := Lib.hid (Blk.new wr 53 #[.int .i64 0, .int .i64 0, .int .i64 0, .int .i64 0, .int .i64 0, .int .i64 0, .int .i64 0, .bool false, .slice none 0 0, .string ⟨#[]⟩])
        go_upto_region 9 with (first | (refine wpList_load_mid rfl 53 (.tmp 27) rfl b (off + k * 10) rfl (MsgV.cells d) _ HR8.out Try.underlying53 rfl (by kernel_rfl) ?_) | (refine wpList_storeB rfl 53 (.tmp 6) (.tmp 28) rfl wr.heap.size (MsgV.cells d).toArray rfl rfl HZ.out infoMs rfl (all_oneCell_toArray (fun v hv => layM.one d v hv)) ?_))
        have hS8 : Blk ((wr.alloc (.cells #[.int .i64 0, .int .i64 0, .int .i64 0, .int .i64 0, .int .i64 0, .int .i64 0, .int .i64 0, .bool false, .slice none 0 0, .string ⟨#[]⟩] 53)).setRow wr.heap.size (MsgV.cells d).toArray) wr.heap.size 53 #[.int .i64 d.m.kind, .int .i64 d.m.src, .int .i64 d.m.dst, .int .i64 d.m.term, .int .i64 d.m.index, .int .i64 d.m.lterm, .int .i64 d.m.commit, .bool d.m.yes, .slice d.A d.m.es.length d.cap, .string d.m.data] := HZ.out.rowSame (MsgV.cells d).toArray
        have HS8 := Lib.hid hS8
        have hb8 := bel_row (bel_new (Below.refl wr.heap.size wr) (.cells #[.int .i64 0, .int .i64 0, .int .i64 0, .int .i64 0, .int .i64 0, .int .i64 0, .int .i64 0, .bool false, .slice none 0 0, .string ⟨#[]⟩] 53)) (Nat.le_refl _) (MsgV.cells d).toArray
        have HB8 := Lib.hid hb8
        have HG : Hid (w.heap.size < wr.heap.size) := Lib.hid HI.out.blk.lt
        clear hS8 hb8 HZ HR8
        generalize hg6 : wr.heap.size = g6 at *
        generalize (wr.alloc (.cells #[.int .i64 0, .int .i64 0, .int .i64 0, .int .i64 0, .int .i64 0, .int .i64 0, .int .i64 0, .bool false, .slice none 0 0, .string ⟨#[]⟩] 53)).setRow g6 (MsgV.cells d).toArray = w8 at *
        have fm : ∀ i, w8.frozen? ⟨g6, i, none⟩ = false := HS8.out.free
        have c0 : w8.cell? ⟨g6, 0, none⟩ = some (.int .i64 d.m.kind) := HS8.out.cells 0
        have c2 : w8.cell? ⟨g6, 2, none⟩ = some (.int .i64 d.m.dst) := HS8.out.cells 2
        have hr0 : w8.cell? ⟨w.heap.size, 0, none⟩ = some (.int .i64 r.id) := (HI.out.blk.bel (by rw [hg6]; exact HB8.out)).cells 0
        have hne : w.heap.size ≠ g6 := Nat.ne_of_lt HG.out
        have hb10 : Below wr.heap.size wr ((w8.setCell ⟨g6, 0, none⟩ (.int .i64 1)).setCell ⟨g6, 2, none⟩ (.int .i64 r.id)) := by
          rw [hg6]
          exact ((HB8.out).setCell (p := ⟨g6, 0, none⟩) (Nat.le_refl _) _).setCell (p := ⟨g6, 2, none⟩) (Nat.le_refl _) _
        have hK10 : Blk ((w8.setCell ⟨g6, 0, none⟩ (.int .i64 1)).setCell ⟨g6, 2, none⟩ (.int .i64 r.id)) g6 53 #[.int .i64 1, .int .i64 d.m.src, .int .i64 r.id, .int .i64 d.m.term, .int .i64 d.m.index, .int .i64 d.m.lterm, .int .i64 d.m.commit, .bool d.m.yes, .slice d.A d.m.es.length d.cap, .string d.m.data] := by
          have := (HS8.out.set 0 (.int .i64 1)).set 2 (.int .i64 r.id)
          simpa only [List.setIfInBounds_toArray, List.set_cons_succ, List.set_cons_zero] using this
        have HB10 := Lib.hid hb10
        have HK10 := Lib.hid hK10
        clear hb10 hK10 HS8 HB8 hg6
        go_upto_region 11 with (fail)
        clear fm c0 c2 hr0
        generalize (w8.setCell ⟨g6, 0, none⟩ (.int .i64 1)).setCell ⟨g6, 2, none⟩ (.int .i64 r.id) = w10 at *
        have HA10 := Lib.hid (HI.out.blk.bel HB10.out)
        have HX10 := Lib.hid (HI.out.rd.bel HI.out.blk HB10.out)
        have HW10 := Lib.hid (bel_tr HI.out.bel HB10.out)
        go_wp2_with (first | (refine wpList_loadB rfl 48 (.tmp 2) rfl w.heap.size rfl HA10.out Try.underlying48 infoR ?_) | (refine wpList_loadB rfl 53 (.tmp 6) rfl g6 rfl HK10.out Try.underlying53 infoMs ?_))
        refine (HHC.out w10 HW10.out (Lib.hid (HX10.out.rd HA10.out))).mono ?_
        rintro e w11 ⟨⟨y, col, LV, rfl, hMl, hR11⟩, hb11⟩
        have HVV := Lib.hid (voice_of hMl HVO.out)
        have HR11 := Lib.hid hR11
        have HA11 := Lib.hid (HA10.out.bel hb11)
        have HW11 := Lib.hid (bel_tr HW10.out hb11)
        have HL11 : Hid (w.heap.size < w11.heap.size) := Lib.hid HA11.out.lt
        have HL10 : Hid (w.heap.size < w10.heap.size) := Lib.hid HA10.out.lt
        clear hMl hR11 hb11 HHC HX10 HK10 HA10 HB10 HVO HW10
        have HZ := Lib.hid (Blk.new w11 48 #[.int .i64 0, .slice none 0 0, .int .i64 0, .int .i64 0, .int .i64 0, .int .i64 0, .int .i64 0, .int .i64 0, .slice none 0 0, .string ⟨#[]⟩, .int .i64 0, .int .i64 0, .int .i64 0, .slice none 0 0, .slice none 0 0, .slice none 0 0])
        go_upto_region 12 with (refine wpList_storeB rfl 48 (.tmp 7) (.tmp 37) rfl w11.heap.size (raftL q y).toArray rfl rfl HZ.out infoR rfl (raftL_one _ _) ?_)
        have hbn := bel_row (bel_new (Below.refl w11.heap.size w11) (.cells #[.int .i64 0, .slice none 0 0, .int .i64 0, .int .i64 0, .int .i64 0, .int .i64 0, .int .i64 0, .int .i64 0, .slice none 0 0, .string ⟨#[]⟩, .int .i64 0, .int .i64 0, .int .i64 0, .slice none 0 0, .slice none 0 0, .slice none 0 0] 48)) (Nat.le_refl _) (raftL q y).toArray
        have HM : Hid (Sv2 w w11.heap.size r x q y LV ((w11.alloc (.cells #[.int .i64 0, .slice none 0 0, .int .i64 0, .int .i64 0, .int .i64 0, .int .i64 0, .int .i64 0, .int .i64 0, .slice none 0 0, .string ⟨#[]⟩, .int .i64 0, .int .i64 0, .int .i64 0, .slice none 0 0, .slice none 0 0, .slice none 0 0] 48)).setRow w11.heap.size (raftL q y).toArray)) := Lib.hid ⟨bel_tr HW11.out hbn, HA11.out.bel hbn, HZ.out.rowSame _, (HR11.out.bel hbn).rdX HL10.out HSZ.out, HR11.out.out.rd.2.1.bel hbn, HR11.out.out.rd.2.2.1, by have := HR11.out.out.rd.2.2.2; unfold maxLen at this; exact this, HL11.out⟩
        clear hbn HZ HR11 HA11 HW11 HSZ HL10
        generalize w11.heap.size = g7 at *
        generalize (w11.alloc (.cells #[.int .i64 0, .slice none 0 0, .int .i64 0, .int .i64 0, .int .i64 0, .int .i64 0, .int .i64 0, .int .i64 0, .slice none 0 0, .string ⟨#[]⟩, .int .i64 0, .int .i64 0, .int .i64 0, .slice none 0 0, .slice none 0 0, .slice none 0 0] 48)).setRow g7 (raftL q y).toArray = w12 at *
        have hlo : LV.length ≤ 9223372036854775807 := by have := HM.out.outl; have := HM.out.outc; omega
        go_wp2_with fail
        go_loopg [9] LV.length (fun a v9 W => ∃ j : Nat, v9 = .int .i64 j ∧ a + j = LV.length ∧ Hid (Sv2 w g7 r x q y LV W))
        case atStart => exact ⟨0, rfl, rfl, HM⟩
        case round =>
          clear HM
          obtain ⟨j, rfl, hj, HM⟩ := hrel
          by_cases hjl : j < LV.length
          · have hji : (j : Int) < (LV.length : Int) := by omega
            obtain ⟨a, rfl⟩ : ∃ a, gk = a + 1 := ⟨gk - 1, by omega⟩
            have HV := Lib.hid (HVV.out j hjl)
            obtain ⟨bo, oo, hoA, hol, hoc⟩ := HM.out.out j hjl
            obtain ⟨z, hz⟩ : ∃ z, z = LV.getD j default := ⟨_, rfl⟩
            rw [← hz] at hoc HV
            have o0 : wr.cell? ⟨bo, oo + j * 10, none⟩ = some (.int .i64 z.m.kind) := hoc 0 _ rfl
            have o2 : wr.cell? ⟨bo, oo + j * 10 + 2, none⟩ = some (.int .i64 z.m.dst) := hoc 2 _ rfl
            have o3 : wr.cell? ⟨bo, oo + j * 10 + 3, none⟩ = some (.int .i64 z.m.term) := hoc 3 _ rfl
            have o7 : wr.cell? ⟨bo, oo + j * 10 + 7, none⟩ = some (.bool z.m.yes) := hoc 7 _ rfl
            have hwj : IntKind.i64.wrap (j : Int) = (j : Int) := IntWalk.i64_in _ (by omega)
            have HOA := Lib.hid hoA
            clear hz hoc hoA
            rw [HOA.out]
            go_wp2_with fail
            go_upto_region 15 with (fail)
            go_cut [96] (fun s96 W => s96 = .bool false ∧ Hid (Sv2 w g7 r x q y LV W))
            case first =>
              have r2 : wr.cell? ⟨w.heap.size, 2, none⟩ = some (.int .i64 r.term) := HM.out.blk.cells 2
              have r3 : wr.cell? ⟨w.heap.size, 3, none⟩ = some (.int .i64 r.vote) := HM.out.blk.cells 3
              have s2 : wr.cell? ⟨g7, 2, none⟩ = some (.int .i64 q.term) := HM.out.blq.cells 2
              have s3 : wr.cell? ⟨g7, 3, none⟩ = some (.int .i64 q.vote) := HM.out.blq.cells 3
              by_cases h1 : z.m.kind = 2
              · have b1 : (z.m.kind == 2) = true := by simp [h1]
                by_cases h2 : z.m.yes = true
                · obtain ⟨v1, v2, v3⟩ := HV.out h1 h2
                  have b2 : (q.vote != z.m.dst) = false := by rw [v1]; simp
                  have b3 : (z.m.term != q.term) = false := by rw [v2]; simp
                  by_cases h4 : r.term = q.term
                  · have b4 : (r.term == q.term) = true := by simp [h4]
                    by_cases h5 : r.vote = 0
                    · have b5 : (r.vote != 0) = false := by simp [h5]
                      clear v1 v2 v3 h1 h4 h5
                      go_quiet (fail)
                      go_wp2_with fail
                      go_meet
                      exact ⟨rfl, Lib.hid (HM.out.to (bel_drewN (Below.refl _ _) nq))⟩
                    · have b5 : (r.vote != 0) = true := by simp [h5]
                      have b6 : (r.vote != q.vote) = false := by rw [v3 h4 h5]; simp
                      clear v1 v2 v3 h1 h4 h5
                      go_quiet (fail)
                      go_wp2_with fail
                      go_meet
                      exact ⟨rfl, Lib.hid (HM.out.to (bel_drewN (Below.refl _ _) nq))⟩
                  · have b4 : (r.term == q.term) = false := by simp [h4]
                    clear v1 v2 v3 h1 h4
                    go_quiet (fail)
                    go_wp2_with fail
                    go_meet
                    exact ⟨rfl, Lib.hid (HM.out.to (bel_drewN (Below.refl _ _) nq))⟩
                · have h2 : z.m.yes = false := by simpa using h2
                  clear h1
                  go_quiet (fail)
                  go_wp2_with fail
                  go_meet
                  exact ⟨rfl, Lib.hid (HM.out.to (bel_drewN (Below.refl _ _) nq))⟩
              · have b1 : (z.m.kind == 2) = false := by simp [h1]
                clear h1
                go_quiet (fail)
                go_wp2_with fail
                go_meet
                exact ⟨rfl, Lib.hid (HM.out.to (bel_drewN (Below.refl _ _) nq))⟩
            case rest =>
              obtain ⟨rfl, HM2⟩ := hcut
              clear HM o0 o2 o3 o7
              go_wp2_with fail
              rw [← HOA.out]
              go_roundg a
              case rel => exact ⟨j + 1, by go_num, by omega, HM2⟩
              case measure => omega
          · have hji : ¬ (j : Int) < (LV.length : Int) := by omega
            go_upto_region 17 with (fail)
            have HX : Hid (SV w xs.length n (k + 1) q y (wr.setRow w.heap.size (raftL q y).toArray)) := Lib.hid ⟨by have := HN.out; omega, bel_row HM.out.bel (Nat.le_refl _) _, HM.out.blk.rowSame _, HM.out.rdq.row _, HGO.out.base, HRO.out⟩
            go_wp2_with (first | (refine wpList_loadB rfl 48 (.tmp 7) rfl g7 rfl HM.out.blq Try.underlying48 infoR ?_) | (refine wpList_storeB rfl 48 (.tmp 2) (.tmp 97) rfl w.heap.size (raftL q y).toArray rfl rfl HM.out.blk infoR rfl (raftL_one _ _) ?_))
            go_roundg n
            case rel => exact ⟨k + 1, q, y, by go_num, HX⟩
            case measure => omega
      · by_cases hk1 : k < xs.length
        · have hki : (k : Int) < (xs.length : Int) := by omega
          have hkj : ¬ (k : Int) < 100 := by omega
          go_wp2_with fail
          go_ret
          exact ⟨rfl, HI.out.bel⟩
        · have hki : ¬ (k : Int) < (xs.length : Int) := by omega
          go_wp2_with fail
          go_ret
          exact ⟨rfl, HI.out.bel⟩

set_option maxRecDepth 100000 in
theorem walks {H : Type} (enc : TypeId × Value → H) : Walks enc Try.prog 16 Try.f16 := by
  intro W base args ds ps hval hA hwt
  rw [Try.params16] at hA hval hwt
  obtain ⟨v0, vs0, d0, ds0, p0, q0, hargs, rfl, rfl, h0, r0⟩ := trodAll_cons hA
  obtain ⟨v1, vs1, d1, ds1, p1, q1, rfl, rfl, rfl, h1, r1⟩ := trodAll_cons r0
  obtain ⟨rfl, rfl, rfl⟩ := trodAll_nil r1
  obtain rfl : args = #[v0, v1] := by cases args; simp_all
  obtain ⟨r, x, rfl, hr⟩ := raft_arg (hval 0 48 v0 rfl rfl) h0 (weightsEach_at (i := 0) hwt rfl rfl)
  obtain ⟨A, xs, cap, rfl, a1, b1, c1, g1⟩ := msgs_arg (hval 1 72 v1 rfl rfl) h1 (weightsEach_at (i := 1) hwt rfl rfl)
  exact walk r x A cap xs W (Lib.hid hr) (Lib.hid c1) (Lib.hid g1) a1 (by omega)

set_option maxRecDepth 100000 in
theorem lifted (os : Os) (started : os.Started) (H : Type) (enc : TypeId × Value → H) :
    ReturnsInHanded {} Try.checked os 16 .any (Rows.raftVotesSpec.pre6 enc Try.prog Try.f16 Rows.raftVotesRow.domain false) (Rows.raftVotesSpec.post enc Try.prog Try.f16 false true false false) :=
  frame_lifted (C := Try.checked) own started (by kernel_rfl) Try.func16
    (ChangeSpec.witness6 (enc := enc) (C := Try.checked) false ⟨#[], #[.agg #[.int .i64 0, .slice none 0 0, .int .i64 0, .int .i64 0, .int .i64 0, .int .i64 0, .int .i64 0, .int .i64 0, .slice none 0 0, .string ⟨#[]⟩, .int .i64 0, .int .i64 0, .int .i64 0, .slice none 0 0, .slice none 0 0, .slice none 0 0], .slice none 0 0], []⟩ 8 (by kernel_rfl) (by kernel_rfl) (by kernel_rfl) (by kernel_rfl)) laidOut (by kernel_rfl) rfl (by rfl) Try.underlying4
    (fun ds h => match ds, h with | [d0, d1], _ => ⟨rfl, rfl, rfl⟩) (walks enc)

theorem over : Rows.raftVotesRow.holds Try.pinned (OpenSpec.ofChange Rows.raftVotesSpec) :=
  OpenClaim.holds_of_wide 16 Try.f16 rfl rfl rfl rfl rfl rfl rfl ⟨rfl, rfl, rfl, rfl, rfl⟩ rfl rfl rfl rfl rfl (by kernel_rfl) Try.func16 (by kernel_rfl)
    (of_decide_eq_true (by kernel_rfl)) (by unfold Func.isWrapper; first | (rw [if_pos (by decide +kernel)]; kernel_rfl) | (rw [if_neg (by decide +kernel)]; exact ⟨rfl, rfl⟩))
    (fun os started H enc _ => lifted os started H enc)

/-- the statement -/
theorem proved : Rows.RaftVotesSaid := over
end Go.Proofs.Ytdladjgdhnkkcaa.lawRaftVotes
