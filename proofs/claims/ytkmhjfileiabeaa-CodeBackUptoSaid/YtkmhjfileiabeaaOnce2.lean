/-
  sync.Once in the run of one goroutine, whole: the first Do, a later Do.
  Conditions: the Once lies in a block of cells, not frozen; its own lock is free; the function that is handed in keeps the Once's cells.
-/
import Derived.Test.YtkmhjfileiabeaaOnce
namespace Go.Proofs.Ytkmhjfileiabeaa
open Go.RowKit
set_option linter.unusedVariables false

/-- '(*sync.Mutex).Lock', the lock free -/
theorem sy_lock (a : Addr) (w : World) (hc : w.cell? a = some (.int .i32 0)) (hz : w.frozen? a = false) :
    Calls Try.prog 41 #[.pointer (some a)] w fun e w' => e = .returned (.tuple #[]) ∧ w' = w.setCell a (.int .i32 1) := by
  have hd := sy_disable
  have he := sy_enable
  have ha := sy_acquire
  have hcas := run_call_cas_hit (P := Try.prog) Try.func49 (by kernel_rfl) (by kernel_rfl) (by kernel_rfl) .i32 (by kernel_rfl) (y := 1) hc hz
  have hc' : (w.setCell a (.int .i32 1)).cell? a = some (.int .i32 1) := World.cell?_setCell_same w a _ hc
  have hcv := run_convert_to_unsafe (P := Try.prog) (src := 84) (dst := 88) Try.underlying84 Try.underlying88 (by kernel_rfl) hc'
  go_enter Try.func41, Try.ntmps41
  go_wp2
  first | go_end0 | (simp only [Exit.inBlock, Exit.then]; refine bodyPost_ret (results_none rfl _ _ _) rfl ?_) | refine bodyPost_ret (results_none rfl _ _ _) rfl ?_
  go_wp2
  go_end0
  exact ⟨rfl, rfl⟩

/-- '(*sync/atomic.Bool).Load' -/
theorem sy_load (a : Addr) (d : Int) (w : World) (hc : w.cell? a = some (.int .u32 d)) (r : Bool) (hr : (d != 0) = r) :
    Calls Try.prog 38 #[.pointer (some a)] w fun e w' => e = .returned (.bool r) ∧ w = w' := by
  have hl := run_call_load (P := Try.prog) Try.func40 (by kernel_rfl) (by kernel_rfl) (by kernel_rfl) .u32 (by kernel_rfl) hc
  go_enter Try.func38, Try.ntmps38
  go_wp2
  go_ret
  exact ⟨rfl, rfl⟩

/-- the Once at a place: its mark, its lock's state -/
def OnceAt (b off : Nat) (d s : Int) (w : World) : Prop :=
  w.cell? ⟨b, off, none⟩ = some (.int .u32 d) ∧ w.cell? ⟨b, off + 1, none⟩ = some (.int .i32 s) ∧ w.frozen? ⟨b, off, none⟩ = false ∧ w.frozen? ⟨b, off + 1, none⟩ = false

set_option maxRecDepth 100000 in
set_option maxHeartbeats 1600000 in
theorem sy_slow (b off : Nat) (F : FuncId) (first cap args : Array Value) (hE : ∀ W, (callFunc F (first ++ cap)).run Try.prog W = .ok (.enter F args) W) (w : World) (R : World → Prop) (h : OnceAt b off 0 0 w)
    (HF : Hid (Calls Try.prog F args (w.setCell ⟨b, off + 1, none⟩ (.int .i32 1)) fun e w' => e = .returned (.tuple #[]) ∧ OnceAt b off 0 1 w' ∧ R w')) :
    Calls Try.prog 39 #[.pointer (some ⟨b, off, none⟩), .func (.func F) first cap] w fun e w' => e = .returned (.tuple #[]) ∧
      ∃ W, R W ∧ OnceAt b off 0 1 W ∧ w' = (W.drew.setCell ⟨b, off, none⟩ (.int .u32 1)).setCell ⟨b, off + 1, none⟩ (.int .i32 0) := by
  obtain ⟨h0, h1, f0, f1⟩ := h
  have hnot : ∀ (x : Bool) (w : World), (Op.unary .not (.bool x)).run Try.prog w = .ok (.bool (!x)) w := fun _ _ => rfl
  go_enter_defers Try.func39, Try.ntmps39
  go_wp2_with (go_at_call 41; refine (sy_lock ⟨b, off + 1, none⟩ _ (by go_simp) (by go_simp)).mono ?_; rintro e w' ⟨rfl, rfl⟩)
  refine (sy_load ⟨b, off, none⟩ 0 _ ((World.cell?_setCell_other _ ⟨b, off + 1, none⟩ ⟨b, off, none⟩ _ (by simp)).trans h0) false rfl).mono ?_
  rintro e w' ⟨rfl, rfl⟩
  go_wp2_with fail
  refine HF.out.mono ?_
  rintro e W ⟨rfl, ⟨g0, g1, z0, z1⟩, hR⟩
  go_wp2_with fail
  refine leaves_cons (f := 43) (args := #[.pointer (some ⟨b, off, none⟩), .bool true]) (by simp) (by simp [go_sem]) ?_
  refine (sy_store ⟨b, off, none⟩ (.int .u32 0) .returning _ g0 z0).mono ?_
  rintro e u' w'' ⟨rfl, rfl, rfl⟩
  refine leaves_cons (f := 42) (args := #[.pointer (some ⟨b, off + 1, none⟩)]) (by simp [settle]) (by simp [go_sem]) ?_
  refine (sy_unlock ⟨b, off + 1, none⟩ _ _ ?_ (by simp [z1])).mono ?_
  · refine (World.cell?_setCell_other _ ⟨b, off, none⟩ ⟨b, off + 1, none⟩ _ (by simp)).trans ?_
    rw [World.cell?_drew]
    exact g1
  rintro e u' w'' ⟨rfl, rfl, rfl⟩
  simp [Leaves, settle, results, Try.results39]
  exact ⟨W, hR, ⟨g0, g1, z0, z1⟩, rfl⟩

set_option maxHeartbeats 1600000 in
/-- Do, the first time -/
theorem sy_do_first (b off : Nat) (F : FuncId) (first cap args : Array Value) (hE : ∀ W, (callFunc F (first ++ cap)).run Try.prog W = .ok (.enter F args) W) (w : World) (R : World → Prop) (h : OnceAt b off 0 0 w)
    (HF : Hid (Calls Try.prog F args (w.setCell ⟨b, off + 1, none⟩ (.int .i32 1)) fun e w' => e = .returned (.tuple #[]) ∧ OnceAt b off 0 1 w' ∧ R w')) :
    Calls Try.prog 30 #[.pointer (some ⟨b, off, none⟩), .func (.func F) first cap] w fun e w' => e = .returned (.tuple #[]) ∧
      ∃ W, R W ∧ OnceAt b off 0 1 W ∧ w' = (W.drew.setCell ⟨b, off, none⟩ (.int .u32 1)).setCell ⟨b, off + 1, none⟩ (.int .i32 0) := by
  have hnot : ∀ (x : Bool) (w : World), (Op.unary .not (.bool x)).run Try.prog w = .ok (.bool (!x)) w := fun _ _ => rfl
  have HS := Lib.hid (sy_slow b off F first cap args hE w R h HF)
  obtain ⟨h0, h1, f0, f1⟩ := h
  go_enter Try.func30, Try.ntmps30
  go_wp2_with fail
  refine (sy_load ⟨b, off, none⟩ 0 _ h0 false rfl).mono ?_
  rintro e w' ⟨rfl, rfl⟩
  go_wp2_with fail
  refine HS.out.mono ?_
  rintro e w2 ⟨rfl, hW⟩
  go_wp2_with fail
  go_end0
  exact ⟨rfl, hW⟩

/-- Do, done already -/
theorem sy_do_done (a : Addr) (d : Int) (hd : (d != 0) = true) (fv : Value) (w : World) (h0 : w.cell? a = some (.int .u32 d)) :
    Calls Try.prog 30 #[.pointer (some a), fv] w fun e w' => e = .returned (.tuple #[]) ∧ w = w' := by
  have hnot : ∀ (x : Bool) (w : World), (Op.unary .not (.bool x)).run Try.prog w = .ok (.bool (!x)) w := fun _ _ => rfl
  go_enter Try.func30, Try.ntmps30
  go_wp2_with fail
  refine (sy_load a d _ h0 true hd).mono ?_
  rintro e w' ⟨rfl, rfl⟩
  go_wp2_with fail
  go_end0
  exact ⟨rfl, rfl⟩
end Go.Proofs.Ytkmhjfileiabeaa
