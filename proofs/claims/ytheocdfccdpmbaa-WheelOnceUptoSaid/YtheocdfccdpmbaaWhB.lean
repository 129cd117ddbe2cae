/-
  Contract: two lists of items that are the same.
  Conditions: the lists can be read.
-/
import Derived.Test.YtheocdfccdpmbaaWhA
namespace Go.Proofs.Ytheocdfccdpmbaa
open Go.RowKit Go.Maps
set_option linter.unusedVariables false
set_option linter.unusedSimpArgs false
set_option maxHeartbeats 4000000

theorem items_calls (A B : Option Addr) (c d : Nat) (l : List Itm) (w : World) (hA : Hid (RdL layW w A l)) (hB : Hid (RdL layW w B l)) (hl : l.length ≤ 1000000) :
    Calls Try.prog 17 #[.slice A l.length c, .slice B l.length d] w fun e w' => e = .returned (.bool true) ∧ Below w.heap.size w w' := by
  have HB0 := Lib.hid (Below.refl w.heap.size w)
  go_enter Try.func17, Try.ntmps17
  go_wp2_with fail
  go_loopg [5] l.length (fun n v5 W => ∃ m : Nat, v5 = .int .i64 m ∧ n + m = l.length ∧ Hid (Below w.heap.size w W))
  case atStart => exact ⟨0, rfl, rfl, HB0⟩
  case round =>
    clear HB0
    obtain ⟨m, rfl, hm, HI⟩ := hrel
    by_cases hml : m < l.length
    · have hmi : (m : Int) < (l.length : Int) := by omega
      obtain ⟨n, rfl⟩ : ∃ n, gk = n + 1 := ⟨gk - 1, by omega⟩
      obtain ⟨ab, ao, hAe, -, ac⟩ := (hA.out.bel HI.out) m hml
      obtain ⟨bb, bo, hBe, -, bc⟩ := (hB.out.bel HI.out) m hml
      obtain ⟨⟨xid, xa⟩, hx⟩ : ∃ x, x = l.getD m default := ⟨_, rfl⟩
      rw [← hx] at ac bc
      have a0 : wr.cell? ⟨ab, ao + m * 2, none⟩ = some (.int .i64 xid) := ac 0 _ rfl
      have a1 : wr.cell? ⟨ab, ao + m * 2 + 1, none⟩ = some (.int .i64 xa) := ac 1 _ rfl
      have b0 : wr.cell? ⟨bb, bo + m * 2, none⟩ = some (.int .i64 xid) := bc 0 _ rfl
      have b1 : wr.cell? ⟨bb, bo + m * 2 + 1, none⟩ = some (.int .i64 xa) := bc 1 _ rfl
      have hwm : IntKind.i64.wrap (m : Int) = (m : Int) := IntWalk.i64_in _ (by omega)
      have HAE := Lib.hid hAe
      have HBE := Lib.hid hBe
      clear ac bc hx hAe hBe
      rw [HAE.out, HBE.out]
      go_wp2_with fail
      go_quiet (fail)
      go_wp2_with fail
      have HIn := Lib.hid (bel_drewN HI.out nq)
      rw [← HAE.out, ← HBE.out]
      go_roundg n
      case rel => exact ⟨m + 1, by go_num, by omega, HIn⟩
      case measure => omega
    · have hmi : ¬ (m : Int) < (l.length : Int) := by omega
      go_wp2_with fail
      go_ret
      exact ⟨rfl, HI.out⟩
end Go.Proofs.Ytheocdfccdpmbaa
