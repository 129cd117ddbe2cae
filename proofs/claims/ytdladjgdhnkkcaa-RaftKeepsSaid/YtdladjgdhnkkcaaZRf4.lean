
/-
  Contract: entries are sent to all others.
  Conditions: the node lies in memory, its log is right.
-/
import Derived.Test.YtdladjgdhnkkcaaZRf3
namespace Go.Proofs.Ytdladjgdhnkkcaa
open Go.RowKit
set_option linter.unusedVariables false
set_option linter.unusedSimpArgs false
set_option maxHeartbeats 2000000

/-- these messages are sent -/
def Said (t : TypeId) (base g : Nat) (r : Nod) (x : NdX) (L : List MsgV) (Ms : List Msg) (w : World) (e : Ending) (w' : World) : Prop :=
  e = .returned (.tuple #[]) ∧ (∃ col oA oc LV, LV.map (·.m) = Ms ∧ Nd t base g col r { x with oA := oA, oc := oc } (L ++ LV) w') ∧ Below base w w'
/-- in the middle of it -/
def PInv (t : TypeId) (base g : Nat) (r : Nod) (x : NdX) (L : List MsgV) (w : World) (k n : Nat) (W : World) : Prop :=
  k + n = r.conf.length ∧ Below base w W ∧ ∃ col oA oc LV, Nd t base g col r { x with oA := oA, oc := oc } (L ++ LV) W ∧ LV.length ≤ k ∧ Rf.pushAll r = LV.map (·.m) ++ Rf.pushes r n k
theorem PInv.skip {t : TypeId} {base g : Nat} {r : Nod} {x : NdX} {L : List MsgV} {w W : World} {k n : Nat} (h : PInv t base g r x L w k (n + 1) W) (hc : r.conf.getD k 0 = r.id) : PInv t base g r x L w (k + 1) n W := by
  obtain ⟨h1, h2, col, oA, oc, LV, h3, h4, h5⟩ := h
  refine ⟨by omega, h2, col, oA, oc, LV, h3, by omega, ?_⟩
  rw [h5]
  simp only [Rf.pushes, if_pos hc, List.nil_append]
theorem PInv.push {t : TypeId} {base g : Nat} {r : Nod} {x : NdX} {L LV : List MsgV} {w W W' : World} {k n : Nat} {oA : Option Addr} {oc : Nat} {e : Ending} (h1 : k + (n + 1) = r.conf.length) (h2 : Below base w W) (h4 : LV.length ≤ k) (h5 : Rf.pushAll r = LV.map (·.m) ++ Rf.pushes r (n + 1) k) (hc : r.conf.getD k 0 ≠ r.id)
    (hp : Pushed t base g r { x with oA := oA, oc := oc } (L ++ LV) (Rf.push r k) W e W') : PInv t base g r x L w (k + 1) n W' := by
  obtain ⟨A, cap, _, ⟨col', oA', oc', hN⟩, hb⟩ := hp
  refine ⟨by omega, h2.trans hb, col', oA', oc', LV ++ [⟨Rf.push r k, A, cap⟩], ?_, by simp; omega, ?_⟩
  · rw [← List.append_assoc]; exact hN
  · rw [h5]
    simp only [Rf.pushes, if_neg hc, List.map_append, List.map_cons, List.map_nil, List.append_assoc]

set_option maxRecDepth 20000 in
theorem pushAll_calls {base g : Nat} {col : Nat → Nat} {r : Nod} {x : NdX} {L : List MsgV} {w : World} (H : Hid (Nd 101 base g col r x L w)) (hL : L.length ≤ 900) (hc0 : 0 < r.conf.length) (hc7 : r.conf.length ≤ 7) (hin : r.next.length = r.conf.length)
    (hb0 : 0 ≤ r.b) (hlen : r.es.length ≤ 4096) (hx : Hid (∀ i, i < r.conf.length → r.next.getD i 0 ≤ 9223372036854775807)) :
    Calls Try.prog 87 #[.pointer (some ⟨g, 0, none⟩)] w (Said 101 base g r x L (Rf.pushAll r) w) := by
  have hC : ∀ i, w.cell? ⟨g, i, none⟩ = _ := H.out.blk.cells
  obtain ⟨cb, co, hcA, _, _⟩ := H.out.conf_at 0 hc0
  have HI0 : Hid (PInv 101 base g r x L w 0 r.conf.length w) := Lib.hid ⟨by omega, Below.refl _ _, col, x.oA, x.oc, [], by rw [List.append_nil]; exact H.out, by simp, by simp [Rf.pushAll]⟩
  have c1 : w.cell? ⟨g, 1, none⟩ = some (.slice (some ⟨cb, co, none⟩) r.conf.length x.cc) := by rw [← hcA]; exact H.out.blk.cells 1
  have HCA := Lib.hid hcA
  clear hC hcA
  go_enter Try.func87, Try.ntmps87
  go_wp2_with fail
  go_loopg [2, 3, 10] r.conf.length (fun n v2 v3 v10 W => ∃ k : Nat, v10 = .int .i64 k ∧ Hid (PInv 101 base g r x L w k n W))
  case atStart => exact ⟨0, rfl, HI0⟩
  case round =>
    obtain ⟨k, rfl, HI⟩ := hrel
    clear c1 HI0
    by_cases hlt : k < r.conf.length
    · have hl : (k : Int) < (r.conf.length : Int) := by omega
      obtain ⟨n, rfl⟩ : ∃ n, gk = n + 1 := ⟨gk - 1, by have := HI.out.1; omega⟩
      obtain ⟨h1, h2, col2, oA2, oc2, LV, h3, h4, h5⟩ := HI.out
      have N := Lib.hid h3
      have H2 := Lib.hid h2
      have H5 := Lib.hid h5
      have c3 := h3.conf_cell HCA.out k hlt rfl
      have c0 : wr.cell? ⟨g, 0, none⟩ = some (.int .i64 r.id) := h3.blk.cells 0
      have HX := Lib.hid (hx.out k hlt)
      clear h2 h3 h5
      by_cases hne : r.conf.getD k 0 = r.id
      · have HNE := Lib.hid hne
        rw [hne] at c3
        clear hne
        go_wp2_with fail
        go_roundg n
        case rel => exact ⟨k + 1, by go_num, Lib.hid (HI.out.skip HNE.out)⟩
        case measure => omega
      · obtain ⟨c, hc⟩ : ∃ c, c = r.conf.getD k 0 := ⟨_, rfl⟩
        rw [← hc] at c3
        have HNE := Lib.hid hne
        have hcn : ¬ c = r.id := by rw [hc]; exact hne
        have hcb : (c != r.id) = true := by rw [bne_iff_ne]; exact hcn
        clear hne hc
        go_wp2_with fail
        refine (push_calls N (by rw [List.length_append]; omega) k hlt hc7 (by rw [hin]; exact hlt) hb0 hlen HX.out).mono ?_
        intro e w1 hp
        have HP := Lib.hid hp
        obtain ⟨A, cap, rfl, _, _⟩ := hp
        go_wp2_with fail
        go_roundg n
        case rel => exact ⟨k + 1, by go_num, Lib.hid (PInv.push h1 H2.out h4 H5.out HNE.out HP.out)⟩
        case measure => omega
    · have hl : ¬ (k : Int) < (r.conf.length : Int) := by omega
      obtain ⟨h1, h2, col2, oA2, oc2, LV, h3, h4, h5⟩ := HI.out
      obtain rfl : gk = 0 := by omega
      simp only [Rf.pushes, List.append_nil] at h5
      have N := Lib.hid h3
      have H2 := Lib.hid h2
      have H5 := Lib.hid h5
      clear h2 h3 h5
      go_wp2_with fail
      go_end0
      exact ⟨rfl, ⟨col2, oA2, oc2, LV, H5.out.symm, N.out⟩, H2.out⟩
end Go.Proofs.Ytdladjgdhnkkcaa
