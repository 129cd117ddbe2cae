
/-
  3 texts in one.
  Conditions: stated lemma by lemma.
-/
import Derived.Test.YtdladjgdhnkkcaaGreatZRf35
import Derived.Test.YtdladjgdhnkkcaaGreatZTr9ToTrR2
import Derived.BigQuiet
import Derived.Deep.Cut
import Derived.Test.YtdladjgdhnkkcaaGreatZRf26ToRf33
import Derived.Deep.RegionHeld3
/-
  Contracts of the reference: equal nodes, equal messages are the same.
  Conditions: both can be read.
-/
namespace Go.Proofs.YtdladjgdhnkkcaaGreat
open Go.RowKit
set_option linter.unusedVariables false
set_option linter.unusedSimpArgs false
set_option maxHeartbeats 4000000

theorem rlongs_calls (A B : Option Addr) (cap cap' : Nat) (a b : List Int) (w : World) (hA : Hid (RdI w A a)) (hla : a.length ≤ 9223372036854775807) (hB : Hid (RdI w B b)) (hlb : b.length ≤ 9223372036854775807) :
    Calls Tryz.prog 35 #[.slice A a.length cap, .slice B b.length cap'] w fun e w' => e = .returned (.bool (decide (a = b))) ∧ Below w.heap.size w w' := by
  obtain ⟨r, hr⟩ : ∃ r, r = decide (a = b) := ⟨_, rfl⟩
  rw [← hr]
  have HR := Lib.hid hr
  clear hr
  by_cases hl : a.length = b.length
  rotate_left
  · have hli : ((a.length : Int) != (b.length : Int)) = true := by rw [bne_iff_ne]; omega
    have hr : r = false := by rw [HR.out, decide_eq_false]; intro e; rw [e] at hl; exact hl rfl
    have HRR := Lib.hid hr
    clear hl hr
    go_enter Tryz.func35, Tryz.ntmps35
    go_wp2_with fail
    go_ret
    exact ⟨ret_bool HRR.out.symm, Below.refl _ _⟩
  have hli : ((a.length : Int) != (b.length : Int)) = false := by rw [hl]; simp
  have HL := Lib.hid hl
  clear hl
  go_enter Tryz.func35, Tryz.ntmps35
  go_wp2_with fail
  go_loopg [5] a.length (fun g v5 W => Below w.heap.size w W ∧ ∃ k : Nat, v5 = .int .i64 k ∧ Hid (k + g = a.length ∧ a.take k = b.take k))
  case atStart => exact ⟨Below.refl _ _, 0, rfl, Lib.hid ⟨by omega, by simp⟩⟩
  case round =>
    obtain ⟨hb, k, rfl, HI⟩ := hrel
    by_cases hlt : k < a.length
    · have hl1 : (k : Int) < (a.length : Int) := by omega
      have hl2 : (k : Int) < (b.length : Int) := by have := HL.out; omega
      have hltb : k < b.length := by have := HL.out; omega
      have hg : 0 < gk := by have := HI.out.1; omega
      obtain ⟨b1, o1, rfl, h1, c1⟩ := hA.out.int k hlt
      obtain ⟨b2, o2, rfl, h2, c2⟩ := hB.out.int k hltb
      replace c1 := (hb.cell (p := ⟨b1, o1 + k, none⟩) h1).trans c1
      replace c2 := (hb.cell (p := ⟨b2, o2 + k, none⟩) h2).trans c2
      have ha : a.take (k + 1) = a.take k ++ [a.getD k default] := by rw [List.take_succ_eq_append_getElem hlt]; simp [List.getD, hlt]
      have hb' : b.take (k + 1) = b.take k ++ [b.getD k default] := by rw [List.take_succ_eq_append_getElem hltb]; simp [List.getD, hltb]
      generalize a.getD k default = x at *
      generalize b.getD k default = y at *
      have HA1 := Lib.hid ha
      have HB1 := Lib.hid hb'
      clear ha hb'
      by_cases hxy : x = y
      · subst hxy
        go_wp2_with fail
        go_quiet (fail)
        go_wp2_with fail
        go_roundg (gk - 1)
        case rel => exact ⟨bel_drewN hb _, k + 1, by go_num, Lib.hid ⟨by have := HI.out.1; omega, by rw [HA1.out, HB1.out, HI.out.2]⟩⟩
        case measure => omega
      · have hne : (x != y) = true := by rw [bne_iff_ne]; exact hxy
        have hr : r = false := by
          rw [HR.out, decide_eq_false]
          intro e
          have h1 := HA1.out
          rw [e, HB1.out] at h1
          exact hxy (by simpa using (List.append_inj' h1 rfl).2.symm)
        have HRR := Lib.hid hr
        clear hr hxy
        go_wp2_with fail
        go_quiet (fail)
        go_wp2_with fail
        go_ret
        exact ⟨ret_bool HRR.out.symm, bel_drewN hb _⟩
    · have hl1 : ¬ (k : Int) < (a.length : Int) := by omega
      have hr : r = true := by
        have hk : k = a.length := by have := HI.out.1; omega
        have h2 := HI.out.2
        rw [hk, List.take_length, HL.out, List.take_length] at h2
        rw [HR.out, decide_eq_true h2]
      have HRR := Lib.hid hr
      clear hr hlt
      go_wp2_with fail
      go_ret
      exact ⟨ret_bool HRR.out.symm, hb⟩

set_option maxRecDepth 100000 in
theorem rsame14_calls (r : Nod) (x y : NdX) (w : World) (h : Hid (RdR w r x)) (k : Hid (RdR w r y)) :
    Calls Tryz.prog 8 #[raftV r x, raftV r y] w fun e w' => e = .returned (.bool true) ∧ Below w.heap.size w w' := by
  have HB1 := Lib.hid (bel_new (bel_new (Below.refl w.heap.size w) (.cells #[.int .i64 r.id, .slice x.cA r.conf.length x.cc, .int .i64 r.term, .int .i64 r.vote, .int .i64 r.role, .int .i64 r.leader, .int .i64 r.b, .int .i64 r.bt, .slice x.eA r.es.length x.ec, .string r.snap, .int .i64 r.commit, .int .i64 r.left, .int .i64 r.wait, .slice x.vA r.votes.length x.vc, .slice x.nA r.next.length x.nc, .slice x.mA r.mtch.length x.mc] 28)) (.cells #[.int .i64 r.id, .slice y.cA r.conf.length y.cc, .int .i64 r.term, .int .i64 r.vote, .int .i64 r.role, .int .i64 r.leader, .int .i64 r.b, .int .i64 r.bt, .slice y.eA r.es.length y.ec, .string r.snap, .int .i64 r.commit, .int .i64 r.left, .int .i64 r.wait, .slice y.vA r.votes.length y.vc, .slice y.nA r.next.length y.nc, .slice y.mA r.mtch.length y.mc] 28))
  have HX1 := Lib.hid ((Blk.new w 28 #[.int .i64 r.id, .slice x.cA r.conf.length x.cc, .int .i64 r.term, .int .i64 r.vote, .int .i64 r.role, .int .i64 r.leader, .int .i64 r.b, .int .i64 r.bt, .slice x.eA r.es.length x.ec, .string r.snap, .int .i64 r.commit, .int .i64 r.left, .int .i64 r.wait, .slice x.vA r.votes.length x.vc, .slice x.nA r.next.length x.nc, .slice x.mA r.mtch.length x.mc]).alloc (.cells #[.int .i64 r.id, .slice y.cA r.conf.length y.cc, .int .i64 r.term, .int .i64 r.vote, .int .i64 r.role, .int .i64 r.leader, .int .i64 r.b, .int .i64 r.bt, .slice y.eA r.es.length y.ec, .string r.snap, .int .i64 r.commit, .int .i64 r.left, .int .i64 r.wait, .slice y.vA r.votes.length y.vc, .slice y.nA r.next.length y.nc, .slice y.mA r.mtch.length y.mc] 28))
  have HY1 := Lib.hid (Blk.new2 w (.cells #[.int .i64 r.id, .slice x.cA r.conf.length x.cc, .int .i64 r.term, .int .i64 r.vote, .int .i64 r.role, .int .i64 r.leader, .int .i64 r.b, .int .i64 r.bt, .slice x.eA r.es.length x.ec, .string r.snap, .int .i64 r.commit, .int .i64 r.left, .int .i64 r.wait, .slice x.vA r.votes.length x.vc, .slice x.nA r.next.length x.nc, .slice x.mA r.mtch.length x.mc] 28) 28 #[.int .i64 r.id, .slice y.cA r.conf.length y.cc, .int .i64 r.term, .int .i64 r.vote, .int .i64 r.role, .int .i64 r.leader, .int .i64 r.b, .int .i64 r.bt, .slice y.eA r.es.length y.ec, .string r.snap, .int .i64 r.commit, .int .i64 r.left, .int .i64 r.wait, .slice y.vA r.votes.length y.vc, .slice y.nA r.next.length y.nc, .slice y.mA r.mtch.length y.mc])
  have HI := Lib.hid (fun (W : World) (hb : Below w.heap.size w W) => qints_calls x.cA y.cA x.cc y.cc r.conf r.conf W (Lib.hid (h.out.conf.bel hb)) (by have := h.out.conf2; omega) (Lib.hid (k.out.conf.bel hb)) (by have := h.out.conf2; omega))
  have HT := Lib.hid (fun (W : World) (hb : Below w.heap.size w W) => same_calls r.b r.bt r.b r.bt x.eA y.eA x.ec y.ec r.es r.es W (h.out.es.bel hb) (k.out.es.bel hb) (by have := h.out.es2; omega) (by have := h.out.es2; omega))
  have HV := Lib.hid (fun (W : World) (hb : Below w.heap.size w W) => qints_calls x.vA y.vA x.vc y.vc r.votes r.votes W (Lib.hid (h.out.votes.bel hb)) (by have := h.out.votes2; omega) (Lib.hid (k.out.votes.bel hb)) (by have := h.out.votes2; omega))
  have HN := Lib.hid (fun (W : World) (hb : Below w.heap.size w W) => rlongs_calls x.nA y.nA x.nc y.nc r.next r.next W (Lib.hid (h.out.next.bel hb)) (by have := h.out.next2; omega) (Lib.hid (k.out.next.bel hb)) (by have := h.out.next2; omega))
  have HM := Lib.hid (fun (W : World) (hb : Below w.heap.size w W) => rlongs_calls x.mA y.mA x.mc y.mc r.mtch r.mtch W (Lib.hid (h.out.mtch.bel hb)) (by have := h.out.mtch2; omega) (Lib.hid (k.out.mtch.bel hb)) (by have := h.out.mtch2; omega))
  go_enter Tryz.func8, Tryz.ntmps8
  go_wp2_with fail
  generalize (w.alloc (.cells #[.int .i64 r.id, .slice x.cA r.conf.length x.cc, .int .i64 r.term, .int .i64 r.vote, .int .i64 r.role, .int .i64 r.leader, .int .i64 r.b, .int .i64 r.bt, .slice x.eA r.es.length x.ec, .string r.snap, .int .i64 r.commit, .int .i64 r.left, .int .i64 r.wait, .slice x.vA r.votes.length x.vc, .slice x.nA r.next.length x.nc, .slice x.mA r.mtch.length x.mc] 28)).alloc (.cells #[.int .i64 r.id, .slice y.cA r.conf.length y.cc, .int .i64 r.term, .int .i64 r.vote, .int .i64 r.role, .int .i64 r.leader, .int .i64 r.b, .int .i64 r.bt, .slice y.eA r.es.length y.ec, .string r.snap, .int .i64 r.commit, .int .i64 r.left, .int .i64 r.wait, .slice y.vA r.votes.length y.vc, .slice y.nA r.next.length y.nc, .slice y.mA r.mtch.length y.mc] 28) = w1 at *
  refine (HI.out w1 HB1.out).mono ?_
  rintro e w2 ⟨rfl, hb2⟩
  have HB2 := Lib.hid (bel_tr HB1.out hb2)
  have HX2 := Lib.hid (HX1.out.bel hb2)
  have HY2 := Lib.hid (HY1.out.bel hb2)
  have hx2 : ∀ i, w2.cell? ⟨w.heap.size, i, none⟩ = (#[.int .i64 r.id, .slice x.cA r.conf.length x.cc, .int .i64 r.term, .int .i64 r.vote, .int .i64 r.role, .int .i64 r.leader, .int .i64 r.b, .int .i64 r.bt, .slice x.eA r.es.length x.ec, .string r.snap, .int .i64 r.commit, .int .i64 r.left, .int .i64 r.wait, .slice x.vA r.votes.length x.vc, .slice x.nA r.next.length x.nc, .slice x.mA r.mtch.length x.mc] : Array Value)[i]? := HX2.out.cells
  have hy2 : ∀ i, w2.cell? ⟨w.heap.size + 1, i, none⟩ = (#[.int .i64 r.id, .slice y.cA r.conf.length y.cc, .int .i64 r.term, .int .i64 r.vote, .int .i64 r.role, .int .i64 r.leader, .int .i64 r.b, .int .i64 r.bt, .slice y.eA r.es.length y.ec, .string r.snap, .int .i64 r.commit, .int .i64 r.left, .int .i64 r.wait, .slice y.vA r.votes.length y.vc, .slice y.nA r.next.length y.nc, .slice y.mA r.mtch.length y.mc] : Array Value)[i]? := HY2.out.cells
  clear hb2 HX1 HY1 HB1 
  simp only [and_self, decide_true]
  go_wp2_with fail
  refine (HT.out w2 HB2.out).mono ?_
  rintro e w3 ⟨rfl, hb3⟩
  have HB3 := Lib.hid (bel_tr HB2.out hb3)
  have HX3 := Lib.hid (HX2.out.bel hb3)
  have HY3 := Lib.hid (HY2.out.bel hb3)
  have hx3 : ∀ i, w3.cell? ⟨w.heap.size, i, none⟩ = (#[.int .i64 r.id, .slice x.cA r.conf.length x.cc, .int .i64 r.term, .int .i64 r.vote, .int .i64 r.role, .int .i64 r.leader, .int .i64 r.b, .int .i64 r.bt, .slice x.eA r.es.length x.ec, .string r.snap, .int .i64 r.commit, .int .i64 r.left, .int .i64 r.wait, .slice x.vA r.votes.length x.vc, .slice x.nA r.next.length x.nc, .slice x.mA r.mtch.length x.mc] : Array Value)[i]? := HX3.out.cells
  have hy3 : ∀ i, w3.cell? ⟨w.heap.size + 1, i, none⟩ = (#[.int .i64 r.id, .slice y.cA r.conf.length y.cc, .int .i64 r.term, .int .i64 r.vote, .int .i64 r.role, .int .i64 r.leader, .int .i64 r.b, .int .i64 r.bt, .slice y.eA r.es.length y.ec, .string r.snap, .int .i64 r.commit, .int .i64 r.left, .int .i64 r.wait, .slice y.vA r.votes.length y.vc, .slice y.nA r.next.length y.nc, .slice y.mA r.mtch.length y.mc] : Array Value)[i]? := HY3.out.cells
  clear hb3 HX2 HY2 HB2 hx2 hy2
  simp only [and_self, decide_true]
  go_wp2_with fail
  refine (HV.out w3 HB3.out).mono ?_
  rintro e w4 ⟨rfl, hb4⟩
  have HB4 := Lib.hid (bel_tr HB3.out hb4)
  have HX4 := Lib.hid (HX3.out.bel hb4)
  have HY4 := Lib.hid (HY3.out.bel hb4)
  have hx4 : ∀ i, w4.cell? ⟨w.heap.size, i, none⟩ = (#[.int .i64 r.id, .slice x.cA r.conf.length x.cc, .int .i64 r.term, .int .i64 r.vote, .int .i64 r.role, .int .i64 r.leader, .int .i64 r.b, .int .i64 r.bt, .slice x.eA r.es.length x.ec, .string r.snap, .int .i64 r.commit, .int .i64 r.left, .int .i64 r.wait, .slice x.vA r.votes.length x.vc, .slice x.nA r.next.length x.nc, .slice x.mA r.mtch.length x.mc] : Array Value)[i]? := HX4.out.cells
  have hy4 : ∀ i, w4.cell? ⟨w.heap.size + 1, i, none⟩ = (#[.int .i64 r.id, .slice y.cA r.conf.length y.cc, .int .i64 r.term, .int .i64 r.vote, .int .i64 r.role, .int .i64 r.leader, .int .i64 r.b, .int .i64 r.bt, .slice y.eA r.es.length y.ec, .string r.snap, .int .i64 r.commit, .int .i64 r.left, .int .i64 r.wait, .slice y.vA r.votes.length y.vc, .slice y.nA r.next.length y.nc, .slice y.mA r.mtch.length y.mc] : Array Value)[i]? := HY4.out.cells
  clear hb4 HX3 HY3 HB3 hx3 hy3
  simp only [and_self, decide_true]
  go_wp2_with fail
  refine (HN.out w4 HB4.out).mono ?_
  rintro e w5 ⟨rfl, hb5⟩
  have HB5 := Lib.hid (bel_tr HB4.out hb5)
  have HX5 := Lib.hid (HX4.out.bel hb5)
  have HY5 := Lib.hid (HY4.out.bel hb5)
  have hx5 : ∀ i, w5.cell? ⟨w.heap.size, i, none⟩ = (#[.int .i64 r.id, .slice x.cA r.conf.length x.cc, .int .i64 r.term, .int .i64 r.vote, .int .i64 r.role, .int .i64 r.leader, .int .i64 r.b, .int .i64 r.bt, .slice x.eA r.es.length x.ec, .string r.snap, .int .i64 r.commit, .int .i64 r.left, .int .i64 r.wait, .slice x.vA r.votes.length x.vc, .slice x.nA r.next.length x.nc, .slice x.mA r.mtch.length x.mc] : Array Value)[i]? := HX5.out.cells
  have hy5 : ∀ i, w5.cell? ⟨w.heap.size + 1, i, none⟩ = (#[.int .i64 r.id, .slice y.cA r.conf.length y.cc, .int .i64 r.term, .int .i64 r.vote, .int .i64 r.role, .int .i64 r.leader, .int .i64 r.b, .int .i64 r.bt, .slice y.eA r.es.length y.ec, .string r.snap, .int .i64 r.commit, .int .i64 r.left, .int .i64 r.wait, .slice y.vA r.votes.length y.vc, .slice y.nA r.next.length y.nc, .slice y.mA r.mtch.length y.mc] : Array Value)[i]? := HY5.out.cells
  clear hb5 HX4 HY4 HB4 hx4 hy4
  simp only [and_self, decide_true]
  go_wp2_with fail
  refine (HM.out w5 HB5.out).mono ?_
  rintro e w6 ⟨rfl, hb6⟩
  have HB6 := Lib.hid (bel_tr HB5.out hb6)
  have HX6 := Lib.hid (HX5.out.bel hb6)
  have HY6 := Lib.hid (HY5.out.bel hb6)
  have hx6 : ∀ i, w6.cell? ⟨w.heap.size, i, none⟩ = (#[.int .i64 r.id, .slice x.cA r.conf.length x.cc, .int .i64 r.term, .int .i64 r.vote, .int .i64 r.role, .int .i64 r.leader, .int .i64 r.b, .int .i64 r.bt, .slice x.eA r.es.length x.ec, .string r.snap, .int .i64 r.commit, .int .i64 r.left, .int .i64 r.wait, .slice x.vA r.votes.length x.vc, .slice x.nA r.next.length x.nc, .slice x.mA r.mtch.length x.mc] : Array Value)[i]? := HX6.out.cells
  have hy6 : ∀ i, w6.cell? ⟨w.heap.size + 1, i, none⟩ = (#[.int .i64 r.id, .slice y.cA r.conf.length y.cc, .int .i64 r.term, .int .i64 r.vote, .int .i64 r.role, .int .i64 r.leader, .int .i64 r.b, .int .i64 r.bt, .slice y.eA r.es.length y.ec, .string r.snap, .int .i64 r.commit, .int .i64 r.left, .int .i64 r.wait, .slice y.vA r.votes.length y.vc, .slice y.nA r.next.length y.nc, .slice y.mA r.mtch.length y.mc] : Array Value)[i]? := HY6.out.cells
  clear hb6 HX5 HY5 HB5 hx5 hy5
  simp only [and_self, decide_true]
  go_wp2_with fail
  go_ret
  exact ⟨rfl, HB6.out⟩

set_option maxRecDepth 100000 in
theorem rmessage_calls (m : Msg) (A B : Option Addr) (cap cap' : Nat) (w : World) (h : Hid (RdE w A m.es)) (k : Hid (RdE w B m.es)) (hl : m.es.length ≤ 9223372036854775807) :
    Calls Tryz.prog 36 #[msgV m A cap, msgV m B cap'] w fun e w' => e = .returned (.bool true) ∧ Below w.heap.size w w' := by
  have HB1 := Lib.hid (bel_new (bel_new (Below.refl w.heap.size w) (.cells #[.int .i64 m.kind, .int .i64 m.src, .int .i64 m.dst, .int .i64 m.term, .int .i64 m.index, .int .i64 m.lterm, .int .i64 m.commit, .bool m.yes, .slice A m.es.length cap, .string m.data] 30)) (.cells #[.int .i64 m.kind, .int .i64 m.src, .int .i64 m.dst, .int .i64 m.term, .int .i64 m.index, .int .i64 m.lterm, .int .i64 m.commit, .bool m.yes, .slice B m.es.length cap', .string m.data] 30))
  have HX1 := Lib.hid ((Blk.new w 30 #[.int .i64 m.kind, .int .i64 m.src, .int .i64 m.dst, .int .i64 m.term, .int .i64 m.index, .int .i64 m.lterm, .int .i64 m.commit, .bool m.yes, .slice A m.es.length cap, .string m.data]).alloc (.cells #[.int .i64 m.kind, .int .i64 m.src, .int .i64 m.dst, .int .i64 m.term, .int .i64 m.index, .int .i64 m.lterm, .int .i64 m.commit, .bool m.yes, .slice B m.es.length cap', .string m.data] 30))
  have HY1 := Lib.hid (Blk.new2 w (.cells #[.int .i64 m.kind, .int .i64 m.src, .int .i64 m.dst, .int .i64 m.term, .int .i64 m.index, .int .i64 m.lterm, .int .i64 m.commit, .bool m.yes, .slice A m.es.length cap, .string m.data] 30) 30 #[.int .i64 m.kind, .int .i64 m.src, .int .i64 m.dst, .int .i64 m.term, .int .i64 m.index, .int .i64 m.lterm, .int .i64 m.commit, .bool m.yes, .slice B m.es.length cap', .string m.data])
  have HE := Lib.hid (fun (W : World) (hb : Below w.heap.size w W) => entries_calls A B cap cap' m.es m.es W (h.out.bel hb) (k.out.bel hb) hl hl)
  go_enter Tryz.func36, Tryz.ntmps36
  go_wp2_with fail
  generalize (w.alloc (.cells #[.int .i64 m.kind, .int .i64 m.src, .int .i64 m.dst, .int .i64 m.term, .int .i64 m.index, .int .i64 m.lterm, .int .i64 m.commit, .bool m.yes, .slice A m.es.length cap, .string m.data] 30)).alloc (.cells #[.int .i64 m.kind, .int .i64 m.src, .int .i64 m.dst, .int .i64 m.term, .int .i64 m.index, .int .i64 m.lterm, .int .i64 m.commit, .bool m.yes, .slice B m.es.length cap', .string m.data] 30) = w1 at *
  refine (HE.out w1 HB1.out).mono ?_
  rintro e w2 ⟨rfl, hb2⟩
  have HB2 := Lib.hid (bel_tr HB1.out hb2)
  have hx2 : ∀ i, w2.cell? ⟨w.heap.size, i, none⟩ = (#[.int .i64 m.kind, .int .i64 m.src, .int .i64 m.dst, .int .i64 m.term, .int .i64 m.index, .int .i64 m.lterm, .int .i64 m.commit, .bool m.yes, .slice A m.es.length cap, .string m.data] : Array Value)[i]? := (HX1.out.bel hb2).cells
  have hy2 : ∀ i, w2.cell? ⟨w.heap.size + 1, i, none⟩ = (#[.int .i64 m.kind, .int .i64 m.src, .int .i64 m.dst, .int .i64 m.term, .int .i64 m.index, .int .i64 m.lterm, .int .i64 m.commit, .bool m.yes, .slice B m.es.length cap', .string m.data] : Array Value)[i]? := (HY1.out.bel hb2).cells
  clear hb2 HX1 HY1 HB1
  simp only [decide_true]
  go_wp2_with fail
  go_ret
  exact ⟨rfl, HB2.out⟩

end Go.Proofs.YtdladjgdhnkkcaaGreat

/-
  Contract of the reference: equal lists of messages are the same.
  Conditions: both can be read.
-/
namespace Go.Proofs.YtdladjgdhnkkcaaGreat
open Go.RowKit
set_option linter.unusedVariables false
set_option linter.unusedSimpArgs false
set_option maxHeartbeats 4000000

/-- messages that can be read, their entries too -/
structure RdM (w : World) (A : Option Addr) (l : List MsgV) : Prop where
  row : RdL layM w A l
  ents : ∀ y ∈ l, RdE w y.A y.m.es
  small : ∀ y ∈ l, y.m.es.length ≤ 9223372036854775807
theorem RdM.bel {w w' : World} {A : Option Addr} {l : List MsgV} (h : RdM w A l) (hb : Below w.heap.size w w') : RdM w' A l := ⟨h.row.bel hb, fun y hy => (h.ents y hy).bel hb, h.small⟩
set_option maxRecDepth 100000 in
theorem rmessages_calls (A B : Option Addr) (cap cap' : Nat) (l l' : List MsgV) (w : World) (h : Hid (RdM w A l)) (k : Hid (RdM w B l')) (he : Hid (l.map (·.m) = l'.map (·.m))) (hl : l.length ≤ 9223372036854775807) :
    Calls Tryz.prog 9 #[.slice A l.length cap, .slice B l'.length cap'] w fun e w' => e = .returned (.bool true) ∧ Below w.heap.size w w' := by
  have hll : l'.length = l.length := by have := congrArg List.length he.out; simpa using this.symm
  rw [hll]
  have HL := Lib.hid hll
  clear hll
  go_enter Tryz.func9, Tryz.ntmps9
  go_wp2_with fail
  go_loopg [5] l.length (fun g v5 W => ∃ i : Nat, v5 = .int .i64 i ∧ g + i = l.length ∧ Hid (Below w.heap.size w W))
  case atStart => exact ⟨0, rfl, rfl, Lib.hid (Below.refl _ _)⟩
  case round =>
    obtain ⟨i, rfl, hgi, HI⟩ := hrel
    by_cases hi : i < l.length
    · have hil : (i : Int) < (l.length : Int) := by omega
      obtain ⟨n, rfl⟩ : ∃ n, gk = n + 1 := ⟨gk - 1, by omega⟩
      obtain ⟨b1, o1, rfl, hb1, c1⟩ := (h.out.row.bel HI.out) i hi
      have hi' : i < l'.length := by have := HL.out; omega
      obtain ⟨b2, o2, rfl, hb2, c2⟩ := (k.out.row.bel HI.out) i hi'
      have hm : (l.getD i default).m = (l'.getD i default).m := by
        have := congrArg (fun z => z[i]?) he.out
        simpa [List.getD, hi, hi'] using this
      have hmem1 : l.getD i default ∈ l := by simp [List.getD, hi]
      have hmem2 : l'.getD i default ∈ l' := by simp [List.getD, hi']
      have HE1 := Lib.hid ((h.out.ents _ hmem1).bel HI.out)
      have HE2 := Lib.hid ((k.out.ents _ hmem2).bel HI.out)
      have hsm := h.out.small _ hmem1
      generalize l.getD i default = y1 at *
      generalize l'.getD i default = y2 at *
      obtain ⟨m, A1, k1⟩ := y1
      obtain ⟨m2, A2, k2⟩ := y2
      obtain rfl : m = m2 := hm
      have d10 : ∀ (z : InS (Sb wr)), z.val.cell? ⟨b1, o1 + i * 10, none⟩ = some (.int .i64 m.kind) := fun z => (z.ok.cell (p := ⟨b1, o1 + i * 10 + 0, none⟩) hb1).trans (c1 0 _ rfl)
      have d11 : ∀ (z : InS (Sb wr)), z.val.cell? ⟨b1, o1 + i * 10 + 1, none⟩ = some (.int .i64 m.src) := fun z => (z.ok.cell (p := ⟨b1, o1 + i * 10 + 1, none⟩) hb1).trans (c1 1 _ rfl)
      have d12 : ∀ (z : InS (Sb wr)), z.val.cell? ⟨b1, o1 + i * 10 + 2, none⟩ = some (.int .i64 m.dst) := fun z => (z.ok.cell (p := ⟨b1, o1 + i * 10 + 2, none⟩) hb1).trans (c1 2 _ rfl)
      have d13 : ∀ (z : InS (Sb wr)), z.val.cell? ⟨b1, o1 + i * 10 + 3, none⟩ = some (.int .i64 m.term) := fun z => (z.ok.cell (p := ⟨b1, o1 + i * 10 + 3, none⟩) hb1).trans (c1 3 _ rfl)
      have d14 : ∀ (z : InS (Sb wr)), z.val.cell? ⟨b1, o1 + i * 10 + 4, none⟩ = some (.int .i64 m.index) := fun z => (z.ok.cell (p := ⟨b1, o1 + i * 10 + 4, none⟩) hb1).trans (c1 4 _ rfl)
      have d15 : ∀ (z : InS (Sb wr)), z.val.cell? ⟨b1, o1 + i * 10 + 5, none⟩ = some (.int .i64 m.lterm) := fun z => (z.ok.cell (p := ⟨b1, o1 + i * 10 + 5, none⟩) hb1).trans (c1 5 _ rfl)
      have d16 : ∀ (z : InS (Sb wr)), z.val.cell? ⟨b1, o1 + i * 10 + 6, none⟩ = some (.int .i64 m.commit) := fun z => (z.ok.cell (p := ⟨b1, o1 + i * 10 + 6, none⟩) hb1).trans (c1 6 _ rfl)
      have d17 : ∀ (z : InS (Sb wr)), z.val.cell? ⟨b1, o1 + i * 10 + 7, none⟩ = some (.bool m.yes) := fun z => (z.ok.cell (p := ⟨b1, o1 + i * 10 + 7, none⟩) hb1).trans (c1 7 _ rfl)
      have d18 : ∀ (z : InS (Sb wr)), z.val.cell? ⟨b1, o1 + i * 10 + 8, none⟩ = some (.slice A1 m.es.length k1) := fun z => (z.ok.cell (p := ⟨b1, o1 + i * 10 + 8, none⟩) hb1).trans (c1 8 _ rfl)
      have d19 : ∀ (z : InS (Sb wr)), z.val.cell? ⟨b1, o1 + i * 10 + 9, none⟩ = some (.string m.data) := fun z => (z.ok.cell (p := ⟨b1, o1 + i * 10 + 9, none⟩) hb1).trans (c1 9 _ rfl)
      have d20 : ∀ (z : InS (Sb wr)), z.val.cell? ⟨b2, o2 + i * 10, none⟩ = some (.int .i64 m.kind) := fun z => (z.ok.cell (p := ⟨b2, o2 + i * 10 + 0, none⟩) hb2).trans (c2 0 _ rfl)
      have d21 : ∀ (z : InS (Sb wr)), z.val.cell? ⟨b2, o2 + i * 10 + 1, none⟩ = some (.int .i64 m.src) := fun z => (z.ok.cell (p := ⟨b2, o2 + i * 10 + 1, none⟩) hb2).trans (c2 1 _ rfl)
      have d22 : ∀ (z : InS (Sb wr)), z.val.cell? ⟨b2, o2 + i * 10 + 2, none⟩ = some (.int .i64 m.dst) := fun z => (z.ok.cell (p := ⟨b2, o2 + i * 10 + 2, none⟩) hb2).trans (c2 2 _ rfl)
      have d23 : ∀ (z : InS (Sb wr)), z.val.cell? ⟨b2, o2 + i * 10 + 3, none⟩ = some (.int .i64 m.term) := fun z => (z.ok.cell (p := ⟨b2, o2 + i * 10 + 3, none⟩) hb2).trans (c2 3 _ rfl)
      have d24 : ∀ (z : InS (Sb wr)), z.val.cell? ⟨b2, o2 + i * 10 + 4, none⟩ = some (.int .i64 m.index) := fun z => (z.ok.cell (p := ⟨b2, o2 + i * 10 + 4, none⟩) hb2).trans (c2 4 _ rfl)
      have d25 : ∀ (z : InS (Sb wr)), z.val.cell? ⟨b2, o2 + i * 10 + 5, none⟩ = some (.int .i64 m.lterm) := fun z => (z.ok.cell (p := ⟨b2, o2 + i * 10 + 5, none⟩) hb2).trans (c2 5 _ rfl)
      have d26 : ∀ (z : InS (Sb wr)), z.val.cell? ⟨b2, o2 + i * 10 + 6, none⟩ = some (.int .i64 m.commit) := fun z => (z.ok.cell (p := ⟨b2, o2 + i * 10 + 6, none⟩) hb2).trans (c2 6 _ rfl)
      have d27 : ∀ (z : InS (Sb wr)), z.val.cell? ⟨b2, o2 + i * 10 + 7, none⟩ = some (.bool m.yes) := fun z => (z.ok.cell (p := ⟨b2, o2 + i * 10 + 7, none⟩) hb2).trans (c2 7 _ rfl)
      have d28 : ∀ (z : InS (Sb wr)), z.val.cell? ⟨b2, o2 + i * 10 + 8, none⟩ = some (.slice A2 m.es.length k2) := fun z => (z.ok.cell (p := ⟨b2, o2 + i * 10 + 8, none⟩) hb2).trans (c2 8 _ rfl)
      have d29 : ∀ (z : InS (Sb wr)), z.val.cell? ⟨b2, o2 + i * 10 + 9, none⟩ = some (.string m.data) := fun z => (z.ok.cell (p := ⟨b2, o2 + i * 10 + 9, none⟩) hb2).trans (c2 9 _ rfl)
      have HME := Lib.hid (fun (z : InS (Sb wr)) => rmessage_calls m A1 A2 k1 k2 z.val (Lib.hid (HE1.out.bel z.ok)) (Lib.hid (HE2.out.bel z.ok)) hsm)
      have hwi : IntKind.i64.wrap (i : Int) = (i : Int) := IntWalk.i64_in _ (by omega)
      clear hmem1 hmem2 HE1 HE2
      go_upto_region 6 with (fail)
      have SX : Sb wr wr.drew := Below.drew (Below.refl _ _)
      have hne : Nonempty (InS (Sb wr)) := ⟨⟨_, SX⟩⟩
      refine wp_region_in (Sb wr) (by kernel_rfl) (by kernel_rfl) SX ?_
      repeat (go_big_quiet_step ((go_at_call 36; exact calls_in_bel (fun _ _ h k => bel_tr h k) (HME.out _))))
      first | refine wpQuiet_nil ?_ | go_big_quiet_step (fail)
      intro W2 hW
      have HW2 := Lib.hid (bel_tr HI.out (in_ok hW))
      clear hW SX hne HME c1 c2 hb1 hb2 d10 d11 d12 d13 d14 d15 d16 d17 d18 d19 d20 d21 d22 d23 d24 d25 d26 d27 d28 d29
      go_wp2_with fail
      go_roundg n
      case rel => exact ⟨i + 1, by go_num, by omega, HW2⟩
      case measure => omega
    · have hil : ¬ (i : Int) < (l.length : Int) := by omega
      go_wp2_with fail
      go_ret
      exact ⟨rfl, HI.out⟩
end Go.Proofs.YtdladjgdhnkkcaaGreat

/-
  What was answered is written over: what stays of it and of all beside it.
  Conditions: stated lemma by lemma.
-/
namespace Go.Proofs.YtdladjgdhnkkcaaGreat
open Go.RowKit
set_option linter.unusedVariables false
set_option linter.unusedSimpArgs false
set_option linter.unusedSectionVars false

theorem cellsE_cons (e : En) (es : List En) : cellsE (e :: es) = .int .i64 e.1 :: .string e.2 :: cellsE es := rfl
theorem cellsE_set : ∀ (es : List En) (j : Nat) (k : Int), (cellsE es).set (j * 2) (.int .i64 k) = cellsE (es.set j (k, (es.getD j default).2))
  | [], j, k => by simp [cellsE]
  | e :: es, 0, k => by simp [cellsE_cons]
  | e :: es, j + 1, k => by
    rw [List.set_cons_succ, cellsE_cons, cellsE_cons, show (j + 1) * 2 = j * 2 + 1 + 1 from by omega, List.set_cons_succ, List.set_cons_succ, cellsE_set es j k]
    simp
section
variable {w w' : World} {base g n cap : Nat} {es : List En} {v : Value}
theorem OwnE.len_eq (h : OwnE w base (.slice (some ⟨g, 0, none⟩) n cap) es) : n = es.length := by
  rcases h.2 with ⟨e, _⟩ | ⟨g', cap', cur, e, _⟩
  · cases e
  · injection e
theorem OwnE.term (h : OwnE w base (.slice (some ⟨g, 0, none⟩) n cap) es) (j : Nat) (k : Int) :
    OwnE (w.setCell ⟨g, j * 2, none⟩ (.int .i64 k)) base (.slice (some ⟨g, 0, none⟩) n cap) (es.set j (k, (es.getD j default).2)) ∧ w.grownBy (w.setCell ⟨g, j * 2, none⟩ (.int .i64 k)) (some g) := by
  have hn := h.len_eq
  subst hn
  have h1 := World.ownsRow.stored h (j * 2) (.int .i64 k)
  refine ⟨?_, h1.2⟩
  unfold OwnE
  rw [← cellsE_set, List.length_set]
  exact h1.1
/-- a row of entries stays one, whatever term is written into whatever block -/
theorem OwnE.any (h : OwnE w base v es) (g j : Nat) (k : Int) : ∃ es', es'.length = es.length ∧ OwnE (w.setCell ⟨g, j * 2, none⟩ (.int .i64 k)) base v es' := by
  by_cases hv : v.ownBlock = some g
  · rcases h.2 with ⟨rfl, _⟩ | ⟨g', cap, cur, rfl, _⟩
    · cases hv
    · injection hv with hv
      subst hv
      exact ⟨_, by simp, (h.term j k).1⟩
  · exact ⟨es, rfl, ownsRow_setCell_other h (a := ⟨g, j * 2, none⟩) hv _⟩
end

section
variable {lo : Nat} {col : Nat → Nat} {r : Nod} {x : NdX} {LV : List MsgV} {W W' : World} {g : Nat}
end

/-- while what was answered is written over: below lo all is as it was, and from hi on what there was -/
structure Ov (w5 w8 : World) (lo hi : Nat) (W : World) : Prop where
  bel : Below lo w5 W
  size : w8.heap.size ≤ W.heap.size
  high : ∀ b, b < w8.heap.size → hi ≤ b → W.heap[b]? = w8.heap[b]?
section
variable {w5 w8 W W' : World} {lo hi g : Nat}
theorem Ov.set (h : Ov w5 w8 lo hi W) (h1 : lo ≤ g) (h2 : g < hi) (i : Nat) (u : Value) : Ov w5 w8 lo hi (W.setCell ⟨g, i, none⟩ u) :=
  ⟨h.bel.setCell h1 u, by have := h.size; simpa using this, fun b hb hh => (Below.heap_setCell W ⟨g, i, none⟩ u b (by show b ≠ g; omega)).trans (h.high b hb hh)⟩
theorem Ov.keep (h : Ov w5 w8 lo hi W) (hb : Below W.heap.size W W') (hlo : lo ≤ W.heap.size) : Ov w5 w8 lo hi W' :=
  ⟨h.bel.trans (hb.mono hlo), Nat.le_trans h.size hb.size, fun b k1 k2 => (hb.block b (Nat.lt_of_lt_of_le k1 h.size)).trans (h.high b k1 k2)⟩
theorem Ov.grown (h : Ov w5 w8 lo hi W) {o : Option Nat} (hg : W.grownBy W' o) (hlo : lo ≤ W.heap.size) (ho : ∀ k, o = some k → lo ≤ k ∧ (k < hi ∨ w8.heap.size ≤ k)) : Ov w5 w8 lo hi W' :=
  ⟨h.bel.grown hg hlo (fun k e => (ho k e).1), Nat.le_trans h.size hg.size, fun b k1 k2 => (hg.block b (Nat.lt_of_lt_of_le k1 h.size) (fun e => by
    have := (ho b e.symm).2
    omega)).trans (h.high b k1 k2)⟩
/-- what was made from hi on is as it was -/
theorem Ov.rest (h : Ov w5 w8 lo hi W) {base : Nat} {col : Nat → Nat} {r : Nod} {x : NdX} {L : List MsgV} (hr : Rest base col r x L w8) (hb : hi ≤ base) : Rest base (lowCol base col) r x L W :=
  hr.lowCol.only1 ⟨h.size, fun b k1 k2 => h.high b k1 (by
    rcases Nat.lt_or_ge b base with hl | hl
    · exact absurd (lowCol_lt hl) k2
    · omega)⟩
theorem Ov.blk (h : Ov w5 w8 lo hi W) {t : TypeId} {cs : Array Value} (hB : Blk w8 g t cs) (hg : hi ≤ g) : Blk W g t cs := (h.high g hB.lt hg).trans hB
end
namespace Rf
theorem sz_of {r : Nod} (h : Base r) (k : Role r) : Sz r :=
  ⟨by have := (Qm.chk_asc h.conf).2.2; omega, by have := es_le h; omega, by have := votes_le h k; omega, next_le h k, mtch_le h k⟩
theorem handle_sz {r : Nod} (h : Sz r) (m : Msg) : Sz (handle r m).1 := by
  by_cases hc : chk r = true
  · obtain ⟨hb, hr⟩ := (chk_iff r).1 hc
    obtain ⟨g, k, _⟩ := handle_go hb hr m
    exact sz_of g.base k
  · have e : handle r m = (r, []) := by unfold handle; rw [if_neg (by simp [hc])]
    rw [e]; exact h
end Rf
/-- what is answered can be read -/
theorem Rest.rd_of {base : Nat} {col : Nat → Nat} {r : Nod} {x : NdX} {L : List MsgV} {w : World} (h : Rest base col r x L w) (z : Sz r) : RdR w r x := h.rdR z.conf z.es z.votes z.next z.mtch
theorem Rest.rdM {base : Nat} {col : Nat → Nat} {r : Nod} {x : NdX} {L : List MsgV} {w : World} (h : Rest base col r x L w) : RdM w x.oA L ∧ L.length ≤ 9223372036854775807 := by
  obtain ⟨_, h1, h2, h3⟩ := h.out.rd
  refine ⟨⟨h1, fun y hy => (h.ents y hy).2.rd, fun y hy => ?_⟩, by unfold maxLen at h3; omega⟩
  obtain ⟨_, _, k2, k3⟩ := (OwnE.row.1 (h.ents y hy).2.1).rd
  unfold maxLen at k3
  omega
end Go.Proofs.YtdladjgdhnkkcaaGreat
