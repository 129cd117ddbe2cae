
/-
  Contract: does a node keep what another holds for agreed on.
  Conditions: both can be read, and it does.
-/
import Derived.Test.YtdladjgdhnkkcaaZRf29
import Derived.BigQuiet
namespace Go.Proofs.Ytdladjgdhnkkcaa
open Go.RowKit
set_option linter.unusedVariables false
set_option linter.unusedSimpArgs false
set_option maxHeartbeats 4000000

set_option maxRecDepth 100000 in
theorem kept_calls (a c : Nod) (x y : NdX) (w : World) (h : Hid (RdR w a x)) (k : Hid (RdR w c y)) (ha : Hid (Rf.Base a)) (hc : Hid (Rf.Base c)) (hk : Hid (Rf.Kept a c)) :
    Calls Try.prog 39 #[raftV a x, raftV c y] w fun e w' => e = .returned (.bool true) ∧ Below w.heap.size w w' := by
  obtain ⟨ra1, ra2, _, _, _, ra3, ra4⟩ := Tr.chk_rim ha.out.trail
  obtain ⟨rc1, rc2, _, _, _, rc3, rc4⟩ := Tr.chk_rim hc.out.trail
  have hab := hk.out.1
  have HB1 := Lib.hid (bel_new (bel_new (Below.refl w.heap.size w) (.cells #[.int .i64 a.id, .slice x.cA a.conf.length x.cc, .int .i64 a.term, .int .i64 a.vote, .int .i64 a.role, .int .i64 a.leader, .int .i64 a.b, .int .i64 a.bt, .slice x.eA a.es.length x.ec, .string a.snap, .int .i64 a.commit, .int .i64 a.left, .int .i64 a.wait, .slice x.vA a.votes.length x.vc, .slice x.nA a.next.length x.nc, .slice x.mA a.mtch.length x.mc] 48)) (.cells #[.int .i64 c.id, .slice y.cA c.conf.length y.cc, .int .i64 c.term, .int .i64 c.vote, .int .i64 c.role, .int .i64 c.leader, .int .i64 c.b, .int .i64 c.bt, .slice y.eA c.es.length y.ec, .string c.snap, .int .i64 c.commit, .int .i64 c.left, .int .i64 c.wait, .slice y.vA c.votes.length y.vc, .slice y.nA c.next.length y.nc, .slice y.mA c.mtch.length y.mc] 48))
  have HA1 := Lib.hid ((Blk.new w 48 #[.int .i64 a.id, .slice x.cA a.conf.length x.cc, .int .i64 a.term, .int .i64 a.vote, .int .i64 a.role, .int .i64 a.leader, .int .i64 a.b, .int .i64 a.bt, .slice x.eA a.es.length x.ec, .string a.snap, .int .i64 a.commit, .int .i64 a.left, .int .i64 a.wait, .slice x.vA a.votes.length x.vc, .slice x.nA a.next.length x.nc, .slice x.mA a.mtch.length x.mc]).alloc (.cells #[.int .i64 c.id, .slice y.cA c.conf.length y.cc, .int .i64 c.term, .int .i64 c.vote, .int .i64 c.role, .int .i64 c.leader, .int .i64 c.b, .int .i64 c.bt, .slice y.eA c.es.length y.ec, .string c.snap, .int .i64 c.commit, .int .i64 c.left, .int .i64 c.wait, .slice y.vA c.votes.length y.vc, .slice y.nA c.next.length y.nc, .slice y.mA c.mtch.length y.mc] 48))
  have HC1 := Lib.hid (Blk.new2 w (.cells #[.int .i64 a.id, .slice x.cA a.conf.length x.cc, .int .i64 a.term, .int .i64 a.vote, .int .i64 a.role, .int .i64 a.leader, .int .i64 a.b, .int .i64 a.bt, .slice x.eA a.es.length x.ec, .string a.snap, .int .i64 a.commit, .int .i64 a.left, .int .i64 a.wait, .slice x.vA a.votes.length x.vc, .slice x.nA a.next.length x.nc, .slice x.mA a.mtch.length x.mc] 48) 48 #[.int .i64 c.id, .slice y.cA c.conf.length y.cc, .int .i64 c.term, .int .i64 c.vote, .int .i64 c.role, .int .i64 c.leader, .int .i64 c.b, .int .i64 c.bt, .slice y.eA c.es.length y.ec, .string c.snap, .int .i64 c.commit, .int .i64 c.left, .int .i64 c.wait, .slice y.vA c.votes.length y.vc, .slice y.nA c.next.length y.nc, .slice y.mA c.mtch.length y.mc])
  go_enter Try.func39, Try.ntmps39
  go_upto_region 1 with (fail)
  generalize (w.alloc (.cells #[.int .i64 a.id, .slice x.cA a.conf.length x.cc, .int .i64 a.term, .int .i64 a.vote, .int .i64 a.role, .int .i64 a.leader, .int .i64 a.b, .int .i64 a.bt, .slice x.eA a.es.length x.ec, .string a.snap, .int .i64 a.commit, .int .i64 a.left, .int .i64 a.wait, .slice x.vA a.votes.length x.vc, .slice x.nA a.next.length x.nc, .slice x.mA a.mtch.length x.mc] 48)).alloc (.cells #[.int .i64 c.id, .slice y.cA c.conf.length y.cc, .int .i64 c.term, .int .i64 c.vote, .int .i64 c.role, .int .i64 c.leader, .int .i64 c.b, .int .i64 c.bt, .slice y.eA c.es.length y.ec, .string c.snap, .int .i64 c.commit, .int .i64 c.left, .int .i64 c.wait, .slice y.vA c.votes.length y.vc, .slice y.nA c.next.length y.nc, .slice y.mA c.mtch.length y.mc] 48) = w1 at *
  have HI0 := Lib.hid (Below.refl w1.heap.size w1)
  go_wp2_with fail
  go_loopg [5, 6, 7] a.es.length (fun g v5 v6 v7 W => ∃ i : Nat, v5 = .int .i64 i ∧ g + i = a.es.length ∧ Hid (Below w1.heap.size w1 W))
  case atStart => exact ⟨0, rfl, rfl, HI0⟩
  case round =>
    obtain ⟨i, rfl, hgi, HI⟩ := hrel
    clear HI0
    have hA : ∀ i, wr.cell? ⟨w.heap.size, i, none⟩ = (#[.int .i64 a.id, .slice x.cA a.conf.length x.cc, .int .i64 a.term, .int .i64 a.vote, .int .i64 a.role, .int .i64 a.leader, .int .i64 a.b, .int .i64 a.bt, .slice x.eA a.es.length x.ec, .string a.snap, .int .i64 a.commit, .int .i64 a.left, .int .i64 a.wait, .slice x.vA a.votes.length x.vc, .slice x.nA a.next.length x.nc, .slice x.mA a.mtch.length x.mc] : Array Value)[i]? := (HA1.out.bel HI.out).cells
    have hC : ∀ i, wr.cell? ⟨w.heap.size + 1, i, none⟩ = (#[.int .i64 c.id, .slice y.cA c.conf.length y.cc, .int .i64 c.term, .int .i64 c.vote, .int .i64 c.role, .int .i64 c.leader, .int .i64 c.b, .int .i64 c.bt, .slice y.eA c.es.length y.ec, .string c.snap, .int .i64 c.commit, .int .i64 c.left, .int .i64 c.wait, .slice y.vA c.votes.length y.vc, .slice y.nA c.next.length y.nc, .slice y.mA c.mtch.length y.mc] : Array Value)[i]? := (HC1.out.bel HI.out).cells
    by_cases hi : i < a.es.length
    · have hil : (i : Int) < (a.es.length : Int) := by omega
      obtain ⟨n, rfl⟩ : ∃ n, gk = n + 1 := ⟨gk - 1, by omega⟩
      obtain ⟨nv, hnv⟩ : ∃ nv : Int, nv = a.b + 1 + i := ⟨_, rfl⟩
      have hw1 : IntKind.i64.wrap (a.b + 1) = a.b + 1 := IntWalk.i64_in _ (by omega)
      have hw2 : IntKind.i64.wrap (a.b + 1 + (i : Int)) = nv := by rw [IntWalk.i64_in _ (by omega), hnv]
      have hwi : IntKind.i64.wrap (i : Int) = (i : Int) := IntWalk.i64_in _ (by omega)
      have HNV := Lib.hid hnv
      clear hnv
      by_cases h1 : a.commit < nv
      · go_wp2_with fail
        go_roundg n
        case rel => exact ⟨i + 1, by go_num, by omega, HI⟩
        case measure => omega
      · by_cases h2 : nv ≤ c.b
        · go_wp2_with fail
          go_roundg n
          case rel => exact ⟨i + 1, by go_num, by omega, HI⟩
          case measure => omega
        · obtain ⟨hj, he⟩ := hk.out.2 i hi (by have := HNV.out; omega) (by have := HNV.out; omega)
          obtain ⟨j, hjv⟩ : ∃ j : Nat, j = (a.b + 1 + i - c.b - 1).toNat := ⟨_, rfl⟩
          rw [← hjv] at hj he
          have hw3 : IntKind.i64.wrap (nv - c.b) = nv - c.b := IntWalk.i64_in _ (by have := HNV.out; omega)
          have hw4 : IntKind.i64.wrap (nv - c.b - 1) = (j : Int) := by rw [IntWalk.i64_in _ (by have := HNV.out; omega)]; have := HNV.out; omega
          have hwj : IntKind.i64.wrap (j : Int) = (j : Int) := IntWalk.i64_in _ (by omega)
          obtain ⟨cb, co, hcA, hcl, p0, p1⟩ := (k.out.es.bel (bel_tr HB1.out HI.out)) j hj
          obtain ⟨ab, ao, haA, hal, q0, q1⟩ := (h.out.es.bel (bel_tr HB1.out HI.out)) i hi
          rw [he] at p0 p1
          obtain ⟨et, eu⟩ := a.es.getD i default
          have a8 : wr.cell? ⟨w.heap.size, 8, none⟩ = some (.slice (some ⟨ab, ao, none⟩) a.es.length x.ec) := by rw [← haA]; exact hA 8
          have c8 : wr.cell? ⟨w.heap.size + 1, 8, none⟩ = some (.slice (some ⟨cb, co, none⟩) c.es.length y.ec) := by rw [← hcA]; exact hC 8
          have a6 : wr.cell? ⟨w.heap.size, 6, none⟩ = some (.int .i64 a.b) := hA 6
          have a10 : wr.cell? ⟨w.heap.size, 10, none⟩ = some (.int .i64 a.commit) := hA 10
          have c6 : wr.cell? ⟨w.heap.size + 1, 6, none⟩ = some (.int .i64 c.b) := hC 6
          have hjl : (j : Int) < (c.es.length : Int) := by omega
          have hjn : ¬ (c.es.length : Int) ≤ (j : Int) := by omega
          clear he hjv hcA haA hA hC
          go_wp2_with fail
          go_quiet (fail)
          go_wp2_with fail
          have HIn := Lib.hid (bel_drewN HI.out nq)
          go_roundg n
          case rel => exact ⟨i + 1, by go_num, by omega, HIn⟩
          case measure => omega
    · have hil : ¬ (i : Int) < (a.es.length : Int) := by omega
      have hge : c.b ≥ a.b := hab
      go_wp2_with fail
      go_ret
      exact ⟨rfl, bel_tr HB1.out HI.out⟩
end Go.Proofs.Ytdladjgdhnkkcaa
