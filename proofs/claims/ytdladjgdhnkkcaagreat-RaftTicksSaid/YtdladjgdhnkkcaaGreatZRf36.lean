
/-
  Contracts of the reference: equal nodes, equal messages are the same.
  Conditions: both can be read.
-/
import Derived.Test.YtdladjgdhnkkcaaGreatZRf35
import Derived.Test.YtdladjgdhnkkcaaGreatZTr9ToTrW
import Derived.BigQuiet
import Derived.Deep.Cut
namespace Go.Proofs.YtdladjgdhnkkcaaGreat
open Go.RowKit
set_option linter.unusedVariables false
set_option linter.unusedSimpArgs false
set_option maxHeartbeats 4000000

theorem rlongs_calls (A B : Option Addr) (cap cap' : Nat) (a b : List Int) (w : World) (hA : Hid (RdI w A a)) (hla : a.length ≤ 9223372036854775807) (hB : Hid (RdI w B b)) (hlb : b.length ≤ 9223372036854775807) :
    Calls Tryz.prog 35 #[.slice A a.length cap, .slice B b.length cap'] w fun e w' => e = .returned (.bool (decide (a = b))) ∧ Below w.heap.size w w' := by
  obtain ⟨r, hr⟩ : ∃ r, r = decide (a = b) := ⟨_, rfl⟩
  rw [← hr]
  have HR := Lib.hid hr
  clear hr
  by_cases hl : a.length = b.length
  rotate_left
  · have hli : ((a.length : Int) != (b.length : Int)) = true := by rw [bne_iff_ne]; omega
    have hr : r = false := by rw [HR.out, decide_eq_false]; intro e; rw [e] at hl; exact hl rfl
    have HRR := Lib.hid hr
    clear hl hr
    go_enter Tryz.func35, Tryz.ntmps35
    go_wp2_with fail
    go_ret
    exact ⟨ret_bool HRR.out.symm, Below.refl _ _⟩
  have hli : ((a.length : Int) != (b.length : Int)) = false := by rw [hl]; simp
  have HL := Lib.hid hl
  clear hl
  go_enter Tryz.func35, Tryz.ntmps35
  go_wp2_with fail
  go_loopg [5] a.length (fun g v5 W => Below w.heap.size w W ∧ ∃ k : Nat, v5 = .int .i64 k ∧ Hid (k + g = a.length ∧ a.take k = b.take k))
  case atStart => exact ⟨Below.refl _ _, 0, rfl, Lib.hid ⟨by omega, by simp⟩⟩
  case round =>
    obtain ⟨hb, k, rfl, HI⟩ := hrel
    by_cases hlt : k < a.length
    · have hl1 : (k : Int) < (a.length : Int) := by omega
      have hl2 : (k : Int) < (b.length : Int) := by have := HL.out; omega
      have hltb : k < b.length := by have := HL.out; omega
      have hg : 0 < gk := by have := HI.out.1; omega
      obtain ⟨b1, o1, rfl, h1, c1⟩ := hA.out.int k hlt
      obtain ⟨b2, o2, rfl, h2, c2⟩ := hB.out.int k hltb
      replace c1 := (hb.cell (p := ⟨b1, o1 + k, none⟩) h1).trans c1
      replace c2 := (hb.cell (p := ⟨b2, o2 + k, none⟩) h2).trans c2
      have ha : a.take (k + 1) = a.take k ++ [a.getD k default] := by rw [List.take_succ_eq_append_getElem hlt]; simp [List.getD, hlt]
      have hb' : b.take (k + 1) = b.take k ++ [b.getD k default] := by rw [List.take_succ_eq_append_getElem hltb]; simp [List.getD, hltb]
      generalize a.getD k default = x at *
      generalize b.getD k default = y at *
      have HA1 := Lib.hid ha
      have HB1 := Lib.hid hb'
      clear ha hb'
      by_cases hxy : x = y
      · subst hxy
        go_wp2_with fail
        go_quiet (fail)
        go_wp2_with fail
        go_roundg (gk - 1)
        case rel => exact ⟨bel_drewN hb _, k + 1, by go_num, Lib.hid ⟨by have := HI.out.1; omega, by rw [HA1.out, HB1.out, HI.out.2]⟩⟩
        case measure => omega
      · have hne : (x != y) = true := by rw [bne_iff_ne]; exact hxy
        have hr : r = false := by
          rw [HR.out, decide_eq_false]
          intro e
          have h1 := HA1.out
          rw [e, HB1.out] at h1
          exact hxy (by simpa using (List.append_inj' h1 rfl).2.symm)
        have HRR := Lib.hid hr
        clear hr hxy
        go_wp2_with fail
        go_quiet (fail)
        go_wp2_with fail
        go_ret
        exact ⟨ret_bool HRR.out.symm, bel_drewN hb _⟩
    · have hl1 : ¬ (k : Int) < (a.length : Int) := by omega
      have hr : r = true := by
        have hk : k = a.length := by have := HI.out.1; omega
        have h2 := HI.out.2
        rw [hk, List.take_length, HL.out, List.take_length] at h2
        rw [HR.out, decide_eq_true h2]
      have HRR := Lib.hid hr
      clear hr hlt
      go_wp2_with fail
      go_ret
      exact ⟨ret_bool HRR.out.symm, hb⟩

set_option maxRecDepth 100000 in
theorem rsame14_calls (r : Nod) (x y : NdX) (w : World) (h : Hid (RdR w r x)) (k : Hid (RdR w r y)) :
    Calls Tryz.prog 8 #[raftV r x, raftV r y] w fun e w' => e = .returned (.bool true) ∧ Below w.heap.size w w' := by
  have HB1 := Lib.hid (bel_new (bel_new (Below.refl w.heap.size w) (.cells #[.int .i64 r.id, .slice x.cA r.conf.length x.cc, .int .i64 r.term, .int .i64 r.vote, .int .i64 r.role, .int .i64 r.leader, .int .i64 r.b, .int .i64 r.bt, .slice x.eA r.es.length x.ec, .string r.snap, .int .i64 r.commit, .int .i64 r.left, .int .i64 r.wait, .slice x.vA r.votes.length x.vc, .slice x.nA r.next.length x.nc, .slice x.mA r.mtch.length x.mc] 28)) (.cells #[.int .i64 r.id, .slice y.cA r.conf.length y.cc, .int .i64 r.term, .int .i64 r.vote, .int .i64 r.role, .int .i64 r.leader, .int .i64 r.b, .int .i64 r.bt, .slice y.eA r.es.length y.ec, .string r.snap, .int .i64 r.commit, .int .i64 r.left, .int .i64 r.wait, .slice y.vA r.votes.length y.vc, .slice y.nA r.next.length y.nc, .slice y.mA r.mtch.length y.mc] 28))
  have HX1 := Lib.hid ((Blk.new w 28 #[.int .i64 r.id, .slice x.cA r.conf.length x.cc, .int .i64 r.term, .int .i64 r.vote, .int .i64 r.role, .int .i64 r.leader, .int .i64 r.b, .int .i64 r.bt, .slice x.eA r.es.length x.ec, .string r.snap, .int .i64 r.commit, .int .i64 r.left, .int .i64 r.wait, .slice x.vA r.votes.length x.vc, .slice x.nA r.next.length x.nc, .slice x.mA r.mtch.length x.mc]).alloc (.cells #[.int .i64 r.id, .slice y.cA r.conf.length y.cc, .int .i64 r.term, .int .i64 r.vote, .int .i64 r.role, .int .i64 r.leader, .int .i64 r.b, .int .i64 r.bt, .slice y.eA r.es.length y.ec, .string r.snap, .int .i64 r.commit, .int .i64 r.left, .int .i64 r.wait, .slice y.vA r.votes.length y.vc, .slice y.nA r.next.length y.nc, .slice y.mA r.mtch.length y.mc] 28))
  have HY1 := Lib.hid (Blk.new2 w (.cells #[.int .i64 r.id, .slice x.cA r.conf.length x.cc, .int .i64 r.term, .int .i64 r.vote, .int .i64 r.role, .int .i64 r.leader, .int .i64 r.b, .int .i64 r.bt, .slice x.eA r.es.length x.ec, .string r.snap, .int .i64 r.commit, .int .i64 r.left, .int .i64 r.wait, .slice x.vA r.votes.length x.vc, .slice x.nA r.next.length x.nc, .slice x.mA r.mtch.length x.mc] 28) 28 #[.int .i64 r.id, .slice y.cA r.conf.length y.cc, .int .i64 r.term, .int .i64 r.vote, .int .i64 r.role, .int .i64 r.leader, .int .i64 r.b, .int .i64 r.bt, .slice y.eA r.es.length y.ec, .string r.snap, .int .i64 r.commit, .int .i64 r.left, .int .i64 r.wait, .slice y.vA r.votes.length y.vc, .slice y.nA r.next.length y.nc, .slice y.mA r.mtch.length y.mc])
  have HI := Lib.hid (fun (W : World) (hb : Below w.heap.size w W) => qints_calls x.cA y.cA x.cc y.cc r.conf r.conf W (Lib.hid (h.out.conf.bel hb)) (by have := h.out.conf2; omega) (Lib.hid (k.out.conf.bel hb)) (by have := h.out.conf2; omega))
  have HT := Lib.hid (fun (W : World) (hb : Below w.heap.size w W) => same_calls r.b r.bt r.b r.bt x.eA y.eA x.ec y.ec r.es r.es W (h.out.es.bel hb) (k.out.es.bel hb) (by have := h.out.es2; omega) (by have := h.out.es2; omega))
  have HV := Lib.hid (fun (W : World) (hb : Below w.heap.size w W) => qints_calls x.vA y.vA x.vc y.vc r.votes r.votes W (Lib.hid (h.out.votes.bel hb)) (by have := h.out.votes2; omega) (Lib.hid (k.out.votes.bel hb)) (by have := h.out.votes2; omega))
  have HN := Lib.hid (fun (W : World) (hb : Below w.heap.size w W) => rlongs_calls x.nA y.nA x.nc y.nc r.next r.next W (Lib.hid (h.out.next.bel hb)) (by have := h.out.next2; omega) (Lib.hid (k.out.next.bel hb)) (by have := h.out.next2; omega))
  have HM := Lib.hid (fun (W : World) (hb : Below w.heap.size w W) => rlongs_calls x.mA y.mA x.mc y.mc r.mtch r.mtch W (Lib.hid (h.out.mtch.bel hb)) (by have := h.out.mtch2; omega) (Lib.hid (k.out.mtch.bel hb)) (by have := h.out.mtch2; omega))
  go_enter Tryz.func8, Tryz.ntmps8
  go_wp2_with fail
  generalize (w.alloc (.cells #[.int .i64 r.id, .slice x.cA r.conf.length x.cc, .int .i64 r.term, .int .i64 r.vote, .int .i64 r.role, .int .i64 r.leader, .int .i64 r.b, .int .i64 r.bt, .slice x.eA r.es.length x.ec, .string r.snap, .int .i64 r.commit, .int .i64 r.left, .int .i64 r.wait, .slice x.vA r.votes.length x.vc, .slice x.nA r.next.length x.nc, .slice x.mA r.mtch.length x.mc] 28)).alloc (.cells #[.int .i64 r.id, .slice y.cA r.conf.length y.cc, .int .i64 r.term, .int .i64 r.vote, .int .i64 r.role, .int .i64 r.leader, .int .i64 r.b, .int .i64 r.bt, .slice y.eA r.es.length y.ec, .string r.snap, .int .i64 r.commit, .int .i64 r.left, .int .i64 r.wait, .slice y.vA r.votes.length y.vc, .slice y.nA r.next.length y.nc, .slice y.mA r.mtch.length y.mc] 28) = w1 at *
  refine (HI.out w1 HB1.out).mono ?_
  rintro e w2 ⟨rfl, hb2⟩
  have HB2 := Lib.hid (bel_tr HB1.out hb2)
  have HX2 := Lib.hid (HX1.out.bel hb2)
  have HY2 := Lib.hid (HY1.out.bel hb2)
  have hx2 : ∀ i, w2.cell? ⟨w.heap.size, i, none⟩ = (#[.int .i64 r.id, .slice x.cA r.conf.length x.cc, .int .i64 r.term, .int .i64 r.vote, .int .i64 r.role, .int .i64 r.leader, .int .i64 r.b, .int .i64 r.bt, .slice x.eA r.es.length x.ec, .string r.snap, .int .i64 r.commit, .int .i64 r.left, .int .i64 r.wait, .slice x.vA r.votes.length x.vc, .slice x.nA r.next.length x.nc, .slice x.mA r.mtch.length x.mc] : Array Value)[i]? := HX2.out.cells
  have hy2 : ∀ i, w2.cell? ⟨w.heap.size + 1, i, none⟩ = (#[.int .i64 r.id, .slice y.cA r.conf.length y.cc, .int .i64 r.term, .int .i64 r.vote, .int .i64 r.role, .int .i64 r.leader, .int .i64 r.b, .int .i64 r.bt, .slice y.eA r.es.length y.ec, .string r.snap, .int .i64 r.commit, .int .i64 r.left, .int .i64 r.wait, .slice y.vA r.votes.length y.vc, .slice y.nA r.next.length y.nc, .slice y.mA r.mtch.length y.mc] : Array Value)[i]? := HY2.out.cells
  clear hb2 HX1 HY1 HB1 
  simp only [and_self, decide_true]
  go_wp2_with fail
  refine (HT.out w2 HB2.out).mono ?_
  rintro e w3 ⟨rfl, hb3⟩
  have HB3 := Lib.hid (bel_tr HB2.out hb3)
  have HX3 := Lib.hid (HX2.out.bel hb3)
  have HY3 := Lib.hid (HY2.out.bel hb3)
  have hx3 : ∀ i, w3.cell? ⟨w.heap.size, i, none⟩ = (#[.int .i64 r.id, .slice x.cA r.conf.length x.cc, .int .i64 r.term, .int .i64 r.vote, .int .i64 r.role, .int .i64 r.leader, .int .i64 r.b, .int .i64 r.bt, .slice x.eA r.es.length x.ec, .string r.snap, .int .i64 r.commit, .int .i64 r.left, .int .i64 r.wait, .slice x.vA r.votes.length x.vc, .slice x.nA r.next.length x.nc, .slice x.mA r.mtch.length x.mc] : Array Value)[i]? := HX3.out.cells
  have hy3 : ∀ i, w3.cell? ⟨w.heap.size + 1, i, none⟩ = (#[.int .i64 r.id, .slice y.cA r.conf.length y.cc, .int .i64 r.term, .int .i64 r.vote, .int .i64 r.role, .int .i64 r.leader, .int .i64 r.b, .int .i64 r.bt, .slice y.eA r.es.length y.ec, .string r.snap, .int .i64 r.commit, .int .i64 r.left, .int .i64 r.wait, .slice y.vA r.votes.length y.vc, .slice y.nA r.next.length y.nc, .slice y.mA r.mtch.length y.mc] : Array Value)[i]? := HY3.out.cells
  clear hb3 HX2 HY2 HB2 hx2 hy2
  simp only [and_self, decide_true]
  go_wp2_with fail
  refine (HV.out w3 HB3.out).mono ?_
  rintro e w4 ⟨rfl, hb4⟩
  have HB4 := Lib.hid (bel_tr HB3.out hb4)
  have HX4 := Lib.hid (HX3.out.bel hb4)
  have HY4 := Lib.hid (HY3.out.bel hb4)
  have hx4 : ∀ i, w4.cell? ⟨w.heap.size, i, none⟩ = (#[.int .i64 r.id, .slice x.cA r.conf.length x.cc, .int .i64 r.term, .int .i64 r.vote, .int .i64 r.role, .int .i64 r.leader, .int .i64 r.b, .int .i64 r.bt, .slice x.eA r.es.length x.ec, .string r.snap, .int .i64 r.commit, .int .i64 r.left, .int .i64 r.wait, .slice x.vA r.votes.length x.vc, .slice x.nA r.next.length x.nc, .slice x.mA r.mtch.length x.mc] : Array Value)[i]? := HX4.out.cells
  have hy4 : ∀ i, w4.cell? ⟨w.heap.size + 1, i, none⟩ = (#[.int .i64 r.id, .slice y.cA r.conf.length y.cc, .int .i64 r.term, .int .i64 r.vote, .int .i64 r.role, .int .i64 r.leader, .int .i64 r.b, .int .i64 r.bt, .slice y.eA r.es.length y.ec, .string r.snap, .int .i64 r.commit, .int .i64 r.left, .int .i64 r.wait, .slice y.vA r.votes.length y.vc, .slice y.nA r.next.length y.nc, .slice y.mA r.mtch.length y.mc] : Array Value)[i]? := HY4.out.cells
  clear hb4 HX3 HY3 HB3 hx3 hy3
  simp only [and_self, decide_true]
  go_wp2_with fail
  refine (HN.out w4 HB4.out).mono ?_
  rintro e w5 ⟨rfl, hb5⟩
  have HB5 := Lib.hid (bel_tr HB4.out hb5)
  have HX5 := Lib.hid (HX4.out.bel hb5)
  have HY5 := Lib.hid (HY4.out.bel hb5)
  have hx5 : ∀ i, w5.cell? ⟨w.heap.size, i, none⟩ = (#[.int .i64 r.id, .slice x.cA r.conf.length x.cc, .int .i64 r.term, .int .i64 r.vote, .int .i64 r.role, .int .i64 r.leader, .int .i64 r.b, .int .i64 r.bt, .slice x.eA r.es.length x.ec, .string r.snap, .int .i64 r.commit, .int .i64 r.left, .int .i64 r.wait, .slice x.vA r.votes.length x.vc, .slice x.nA r.next.length x.nc, .slice x.mA r.mtch.length x.mc] : Array Value)[i]? := HX5.out.cells
  have hy5 : ∀ i, w5.cell? ⟨w.heap.size + 1, i, none⟩ = (#[.int .i64 r.id, .slice y.cA r.conf.length y.cc, .int .i64 r.term, .int .i64 r.vote, .int .i64 r.role, .int .i64 r.leader, .int .i64 r.b, .int .i64 r.bt, .slice y.eA r.es.length y.ec, .string r.snap, .int .i64 r.commit, .int .i64 r.left, .int .i64 r.wait, .slice y.vA r.votes.length y.vc, .slice y.nA r.next.length y.nc, .slice y.mA r.mtch.length y.mc] : Array Value)[i]? := HY5.out.cells
  clear hb5 HX4 HY4 HB4 hx4 hy4
  simp only [and_self, decide_true]
  go_wp2_with fail
  refine (HM.out w5 HB5.out).mono ?_
  rintro e w6 ⟨rfl, hb6⟩
  have HB6 := Lib.hid (bel_tr HB5.out hb6)
  have HX6 := Lib.hid (HX5.out.bel hb6)
  have HY6 := Lib.hid (HY5.out.bel hb6)
  have hx6 : ∀ i, w6.cell? ⟨w.heap.size, i, none⟩ = (#[.int .i64 r.id, .slice x.cA r.conf.length x.cc, .int .i64 r.term, .int .i64 r.vote, .int .i64 r.role, .int .i64 r.leader, .int .i64 r.b, .int .i64 r.bt, .slice x.eA r.es.length x.ec, .string r.snap, .int .i64 r.commit, .int .i64 r.left, .int .i64 r.wait, .slice x.vA r.votes.length x.vc, .slice x.nA r.next.length x.nc, .slice x.mA r.mtch.length x.mc] : Array Value)[i]? := HX6.out.cells
  have hy6 : ∀ i, w6.cell? ⟨w.heap.size + 1, i, none⟩ = (#[.int .i64 r.id, .slice y.cA r.conf.length y.cc, .int .i64 r.term, .int .i64 r.vote, .int .i64 r.role, .int .i64 r.leader, .int .i64 r.b, .int .i64 r.bt, .slice y.eA r.es.length y.ec, .string r.snap, .int .i64 r.commit, .int .i64 r.left, .int .i64 r.wait, .slice y.vA r.votes.length y.vc, .slice y.nA r.next.length y.nc, .slice y.mA r.mtch.length y.mc] : Array Value)[i]? := HY6.out.cells
  clear hb6 HX5 HY5 HB5 hx5 hy5
  simp only [and_self, decide_true]
  go_wp2_with fail
  go_ret
  exact ⟨rfl, HB6.out⟩

set_option maxRecDepth 100000 in
theorem rmessage_calls (m : Msg) (A B : Option Addr) (cap cap' : Nat) (w : World) (h : Hid (RdE w A m.es)) (k : Hid (RdE w B m.es)) (hl : m.es.length ≤ 9223372036854775807) :
    Calls Tryz.prog 36 #[msgV m A cap, msgV m B cap'] w fun e w' => e = .returned (.bool true) ∧ Below w.heap.size w w' := by
  have HB1 := Lib.hid (bel_new (bel_new (Below.refl w.heap.size w) (.cells #[.int .i64 m.kind, .int .i64 m.src, .int .i64 m.dst, .int .i64 m.term, .int .i64 m.index, .int .i64 m.lterm, .int .i64 m.commit, .bool m.yes, .slice A m.es.length cap, .string m.data] 30)) (.cells #[.int .i64 m.kind, .int .i64 m.src, .int .i64 m.dst, .int .i64 m.term, .int .i64 m.index, .int .i64 m.lterm, .int .i64 m.commit, .bool m.yes, .slice B m.es.length cap', .string m.data] 30))
  have HX1 := Lib.hid ((Blk.new w 30 #[.int .i64 m.kind, .int .i64 m.src, .int .i64 m.dst, .int .i64 m.term, .int .i64 m.index, .int .i64 m.lterm, .int .i64 m.commit, .bool m.yes, .slice A m.es.length cap, .string m.data]).alloc (.cells #[.int .i64 m.kind, .int .i64 m.src, .int .i64 m.dst, .int .i64 m.term, .int .i64 m.index, .int .i64 m.lterm, .int .i64 m.commit, .bool m.yes, .slice B m.es.length cap', .string m.data] 30))
  have HY1 := Lib.hid (Blk.new2 w (.cells #[.int .i64 m.kind, .int .i64 m.src, .int .i64 m.dst, .int .i64 m.term, .int .i64 m.index, .int .i64 m.lterm, .int .i64 m.commit, .bool m.yes, .slice A m.es.length cap, .string m.data] 30) 30 #[.int .i64 m.kind, .int .i64 m.src, .int .i64 m.dst, .int .i64 m.term, .int .i64 m.index, .int .i64 m.lterm, .int .i64 m.commit, .bool m.yes, .slice B m.es.length cap', .string m.data])
  have HE := Lib.hid (fun (W : World) (hb : Below w.heap.size w W) => entries_calls A B cap cap' m.es m.es W (h.out.bel hb) (k.out.bel hb) hl hl)
  go_enter Tryz.func36, Tryz.ntmps36
  go_wp2_with fail
  generalize (w.alloc (.cells #[.int .i64 m.kind, .int .i64 m.src, .int .i64 m.dst, .int .i64 m.term, .int .i64 m.index, .int .i64 m.lterm, .int .i64 m.commit, .bool m.yes, .slice A m.es.length cap, .string m.data] 30)).alloc (.cells #[.int .i64 m.kind, .int .i64 m.src, .int .i64 m.dst, .int .i64 m.term, .int .i64 m.index, .int .i64 m.lterm, .int .i64 m.commit, .bool m.yes, .slice B m.es.length cap', .string m.data] 30) = w1 at *
  refine (HE.out w1 HB1.out).mono ?_
  rintro e w2 ⟨rfl, hb2⟩
  have HB2 := Lib.hid (bel_tr HB1.out hb2)
  have hx2 : ∀ i, w2.cell? ⟨w.heap.size, i, none⟩ = (#[.int .i64 m.kind, .int .i64 m.src, .int .i64 m.dst, .int .i64 m.term, .int .i64 m.index, .int .i64 m.lterm, .int .i64 m.commit, .bool m.yes, .slice A m.es.length cap, .string m.data] : Array Value)[i]? := (HX1.out.bel hb2).cells
  have hy2 : ∀ i, w2.cell? ⟨w.heap.size + 1, i, none⟩ = (#[.int .i64 m.kind, .int .i64 m.src, .int .i64 m.dst, .int .i64 m.term, .int .i64 m.index, .int .i64 m.lterm, .int .i64 m.commit, .bool m.yes, .slice B m.es.length cap', .string m.data] : Array Value)[i]? := (HY1.out.bel hb2).cells
  clear hb2 HX1 HY1 HB1
  simp only [decide_true]
  go_wp2_with fail
  go_ret
  exact ⟨rfl, HB2.out⟩

end Go.Proofs.YtdladjgdhnkkcaaGreat
