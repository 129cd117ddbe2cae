
/-
  Contract of the reference: equal lists of messages are the same.
  Conditions: both can be read.
-/
import Derived.Test.YtdladjgdhnkkcaaZRf36
namespace Go.Proofs.Ytdladjgdhnkkcaa
open Go.RowKit
set_option linter.unusedVariables false
set_option linter.unusedSimpArgs false
set_option maxHeartbeats 4000000

/-- messages that can be read, their entries too -/
structure RdM (w : World) (A : Option Addr) (l : List MsgV) : Prop where
  row : RdL layM w A l
  ents : ∀ y ∈ l, RdE w y.A y.m.es
  small : ∀ y ∈ l, y.m.es.length ≤ 9223372036854775807
theorem RdM.bel {w w' : World} {A : Option Addr} {l : List MsgV} (h : RdM w A l) (hb : Below w.heap.size w w') : RdM w' A l := ⟨h.row.bel hb, fun y hy => (h.ents y hy).bel hb, h.small⟩
set_option maxRecDepth 100000 in
theorem rmessages_calls (A B : Option Addr) (cap cap' : Nat) (l l' : List MsgV) (w : World) (h : Hid (RdM w A l)) (k : Hid (RdM w B l')) (he : Hid (l.map (·.m) = l'.map (·.m))) (hl : l.length ≤ 9223372036854775807) :
    Calls Try.prog 58 #[.slice A l.length cap, .slice B l'.length cap'] w fun e w' => e = .returned (.bool true) ∧ Below w.heap.size w w' := by
  have hll : l'.length = l.length := by have := congrArg List.length he.out; simpa using this.symm
  rw [hll]
  have HL := Lib.hid hll
  clear hll
  go_enter Try.func58, Try.ntmps58
  go_wp2_with fail
  go_loopg [5] l.length (fun g v5 W => ∃ i : Nat, v5 = .int .i64 i ∧ g + i = l.length ∧ Hid (Below w.heap.size w W))
  case atStart => exact ⟨0, rfl, rfl, Lib.hid (Below.refl _ _)⟩
  case round =>
    obtain ⟨i, rfl, hgi, HI⟩ := hrel
    by_cases hi : i < l.length
    · have hil : (i : Int) < (l.length : Int) := by omega
      obtain ⟨n, rfl⟩ : ∃ n, gk = n + 1 := ⟨gk - 1, by omega⟩
      obtain ⟨b1, o1, rfl, hb1, c1⟩ := (h.out.row.bel HI.out) i hi
      have hi' : i < l'.length := by have := HL.out; omega
      obtain ⟨b2, o2, rfl, hb2, c2⟩ := (k.out.row.bel HI.out) i hi'
      have hm : (l.getD i default).m = (l'.getD i default).m := by
        have := congrArg (fun z => z[i]?) he.out
        simpa [List.getD, hi, hi'] using this
      have hmem1 : l.getD i default ∈ l := by simp [List.getD, hi]
      have hmem2 : l'.getD i default ∈ l' := by simp [List.getD, hi']
      have HE1 := Lib.hid ((h.out.ents _ hmem1).bel HI.out)
      have HE2 := Lib.hid ((k.out.ents _ hmem2).bel HI.out)
      have hsm := h.out.small _ hmem1
      generalize l.getD i default = y1 at *
      generalize l'.getD i default = y2 at *
      obtain ⟨m, A1, k1⟩ := y1
      obtain ⟨m2, A2, k2⟩ := y2
      obtain rfl : m = m2 := hm
      have d10 : ∀ (z : InS (Sb wr)), z.val.cell? ⟨b1, o1 + i * 10, none⟩ = some (.int .i64 m.kind) := fun z => (z.ok.cell (p := ⟨b1, o1 + i * 10 + 0, none⟩) hb1).trans (c1 0 _ rfl)
      have d11 : ∀ (z : InS (Sb wr)), z.val.cell? ⟨b1, o1 + i * 10 + 1, none⟩ = some (.int .i64 m.src) := fun z => (z.ok.cell (p := ⟨b1, o1 + i * 10 + 1, none⟩) hb1).trans (c1 1 _ rfl)
      have d12 : ∀ (z : InS (Sb wr)), z.val.cell? ⟨b1, o1 + i * 10 + 2, none⟩ = some (.int .i64 m.dst) := fun z => (z.ok.cell (p := ⟨b1, o1 + i * 10 + 2, none⟩) hb1).trans (c1 2 _ rfl)
      have d13 : ∀ (z : InS (Sb wr)), z.val.cell? ⟨b1, o1 + i * 10 + 3, none⟩ = some (.int .i64 m.term) := fun z => (z.ok.cell (p := ⟨b1, o1 + i * 10 + 3, none⟩) hb1).trans (c1 3 _ rfl)
      have d14 : ∀ (z : InS (Sb wr)), z.val.cell? ⟨b1, o1 + i * 10 + 4, none⟩ = some (.int .i64 m.index) := fun z => (z.ok.cell (p := ⟨b1, o1 + i * 10 + 4, none⟩) hb1).trans (c1 4 _ rfl)
      have d15 : ∀ (z : InS (Sb wr)), z.val.cell? ⟨b1, o1 + i * 10 + 5, none⟩ = some (.int .i64 m.lterm) := fun z => (z.ok.cell (p := ⟨b1, o1 + i * 10 + 5, none⟩) hb1).trans (c1 5 _ rfl)
      have d16 : ∀ (z : InS (Sb wr)), z.val.cell? ⟨b1, o1 + i * 10 + 6, none⟩ = some (.int .i64 m.commit) := fun z => (z.ok.cell (p := ⟨b1, o1 + i * 10 + 6, none⟩) hb1).trans (c1 6 _ rfl)
      have d17 : ∀ (z : InS (Sb wr)), z.val.cell? ⟨b1, o1 + i * 10 + 7, none⟩ = some (.bool m.yes) := fun z => (z.ok.cell (p := ⟨b1, o1 + i * 10 + 7, none⟩) hb1).trans (c1 7 _ rfl)
      have d18 : ∀ (z : InS (Sb wr)), z.val.cell? ⟨b1, o1 + i * 10 + 8, none⟩ = some (.slice A1 m.es.length k1) := fun z => (z.ok.cell (p := ⟨b1, o1 + i * 10 + 8, none⟩) hb1).trans (c1 8 _ rfl)
      have d19 : ∀ (z : InS (Sb wr)), z.val.cell? ⟨b1, o1 + i * 10 + 9, none⟩ = some (.string m.data) := fun z => (z.ok.cell (p := ⟨b1, o1 + i * 10 + 9, none⟩) hb1).trans (c1 9 _ rfl)
      have d20 : ∀ (z : InS (Sb wr)), z.val.cell? ⟨b2, o2 + i * 10, none⟩ = some (.int .i64 m.kind) := fun z => (z.ok.cell (p := ⟨b2, o2 + i * 10 + 0, none⟩) hb2).trans (c2 0 _ rfl)
      have d21 : ∀ (z : InS (Sb wr)), z.val.cell? ⟨b2, o2 + i * 10 + 1, none⟩ = some (.int .i64 m.src) := fun z => (z.ok.cell (p := ⟨b2, o2 + i * 10 + 1, none⟩) hb2).trans (c2 1 _ rfl)
      have d22 : ∀ (z : InS (Sb wr)), z.val.cell? ⟨b2, o2 + i * 10 + 2, none⟩ = some (.int .i64 m.dst) := fun z => (z.ok.cell (p := ⟨b2, o2 + i * 10 + 2, none⟩) hb2).trans (c2 2 _ rfl)
      have d23 : ∀ (z : InS (Sb wr)), z.val.cell? ⟨b2, o2 + i * 10 + 3, none⟩ = some (.int .i64 m.term) := fun z => (z.ok.cell (p := ⟨b2, o2 + i * 10 + 3, none⟩) hb2).trans (c2 3 _ rfl)
      have d24 : ∀ (z : InS (Sb wr)), z.val.cell? ⟨b2, o2 + i * 10 + 4, none⟩ = some (.int .i64 m.index) := fun z => (z.ok.cell (p := ⟨b2, o2 + i * 10 + 4, none⟩) hb2).trans (c2 4 _ rfl)
      have d25 : ∀ (z : InS (Sb wr)), z.val.cell? ⟨b2, o2 + i * 10 + 5, none⟩ = some (.int .i64 m.lterm) := fun z => (z.ok.cell (p := ⟨b2, o2 + i * 10 + 5, none⟩) hb2).trans (c2 5 _ rfl)
      have d26 : ∀ (z : InS (Sb wr)), z.val.cell? ⟨b2, o2 + i * 10 + 6, none⟩ = some (.int .i64 m.commit) := fun z => (z.ok.cell (p := ⟨b2, o2 + i * 10 + 6, none⟩) hb2).trans (c2 6 _ rfl)
      have d27 : ∀ (z : InS (Sb wr)), z.val.cell? ⟨b2, o2 + i * 10 + 7, none⟩ = some (.bool m.yes) := fun z => (z.ok.cell (p := ⟨b2, o2 + i * 10 + 7, none⟩) hb2).trans (c2 7 _ rfl)
      have d28 : ∀ (z : InS (Sb wr)), z.val.cell? ⟨b2, o2 + i * 10 + 8, none⟩ = some (.slice A2 m.es.length k2) := fun z => (z.ok.cell (p := ⟨b2, o2 + i * 10 + 8, none⟩) hb2).trans (c2 8 _ rfl)
      have d29 : ∀ (z : InS (Sb wr)), z.val.cell? ⟨b2, o2 + i * 10 + 9, none⟩ = some (.string m.data) := fun z => (z.ok.cell (p := ⟨b2, o2 + i * 10 + 9, none⟩) hb2).trans (c2 9 _ rfl)
      have HME := Lib.hid (fun (z : InS (Sb wr)) => rmessage_calls m A1 A2 k1 k2 z.val (Lib.hid (HE1.out.bel z.ok)) (Lib.hid (HE2.out.bel z.ok)) hsm)
      have hwi : IntKind.i64.wrap (i : Int) = (i : Int) := IntWalk.i64_in _ (by omega)
      clear hmem1 hmem2 HE1 HE2
      go_upto_region 6 with (fail)
      have SX : Sb wr wr.drew := Below.drew (Below.refl _ _)
      have hne : Nonempty (InS (Sb wr)) := ⟨⟨_, SX⟩⟩
      refine wp_region_in (Sb wr) (by kernel_rfl) (by kernel_rfl) SX ?_
      repeat (go_big_quiet_step ((go_at_call 90; exact calls_in_bel (fun _ _ h k => bel_tr h k) (HME.out _))))
      first | refine wpQuiet_nil ?_ | go_big_quiet_step (fail)
      intro W2 hW
      have HW2 := Lib.hid (bel_tr HI.out (in_ok hW))
      clear hW SX hne HME c1 c2 hb1 hb2 d10 d11 d12 d13 d14 d15 d16 d17 d18 d19 d20 d21 d22 d23 d24 d25 d26 d27 d28 d29
      go_wp2_with fail
      go_roundg n
      case rel => exact ⟨i + 1, by go_num, by omega, HW2⟩
      case measure => omega
    · have hil : ¬ (i : Int) < (l.length : Int) := by omega
      go_wp2_with fail
      go_ret
      exact ⟨rfl, HI.out⟩
end Go.Proofs.Ytdladjgdhnkkcaa
