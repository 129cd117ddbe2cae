/-
  sync.Once in the run of one goroutine: the first call of Do calls its function and marks the Once; a later one does nothing.
  Conditions: the Once lies in a block of cells; its own lock is free.
-/
import Derived.Test.YtkmhjfileiabeaaKit3
import Derived.Laws.LoneSync
import Derived.RegionTactic
import Derived.RegionCalls
import Derived.Defers
namespace Go.Proofs.Ytkmhjfileiabeaa
open Go.RowKit
set_option linter.unusedVariables false

theorem sy_disable (w : World) : (callFunc 48 #[]).run Try.prog w = .ok (.value (.tuple #[])) w := run_call_mark0 Try.func48 (by kernel_rfl) (by kernel_rfl) (by kernel_rfl) .disable (by kernel_rfl) w
theorem sy_enable (w : World) : (callFunc 50 #[]).run Try.prog w = .ok (.value (.tuple #[])) w := run_call_mark0 Try.func50 (by kernel_rfl) (by kernel_rfl) (by kernel_rfl) .enable (by kernel_rfl) w
theorem sy_acquire (a : Addr) (w : World) : (callFunc 51 #[.pointer (some a)]).run Try.prog w = .ok (.value (.tuple #[])) w := run_call_marked Try.func51 (by kernel_rfl) (by kernel_rfl) (by kernel_rfl) .acquire (by kernel_rfl) a w
theorem sy_release (a : Addr) (w : World) : (callFunc 53 #[.pointer (some a)]).run Try.prog w = .ok (.value (.tuple #[])) w := run_call_marked Try.func53 (by kernel_rfl) (by kernel_rfl) (by kernel_rfl) .releaseMerge (by kernel_rfl) a w

/-- '(*sync/atomic.Bool).Store(true)', entered as a deferred call -/
theorem sy_store (a : Addr) (x : Value) (u : FrameMode) (w : World) (hc : w.cell? a = some x) (hz : w.frozen? a = false) :
    CallsD Try.prog 43 #[.pointer (some a), .bool true] u w fun e u' w' => u' = u ∧ (e = .returned (.tuple #[]) ∧ w' = w.drew.setCell a (.int .u32 1)) := by
  have hc' : w.drew.cell? a = some x := by go_simp
  have hz' : w.drew.frozen? a = false := by go_simp
  have hst := run_call_store (P := Try.prog) Try.func46 (by kernel_rfl) (by kernel_rfl) (by kernel_rfl) (by kernel_rfl) (k := .u32) (y := 1) hc' hz'
  go_enter_d Try.func43, Try.ntmps43
  go_wp2
  go_region_calls
  all_goals (go_end0; exact ⟨rfl, rfl⟩)

/-- '(*sync.Mutex).Unlock', entered as a deferred call, the lock held -/
theorem sy_unlock (a : Addr) (u : FrameMode) (w : World) (hc : w.cell? a = some (.int .i32 1)) (hz : w.frozen? a = false) :
    CallsD Try.prog 42 #[.pointer (some a)] u w fun e u' w' => u' = u ∧ (e = .returned (.tuple #[]) ∧ w' = w.setCell a (.int .i32 0)) := by
  have hd := sy_disable
  have he := sy_enable
  have hr := sy_release
  have hadd := run_call_add (P := Try.prog) Try.func54 (by kernel_rfl) (by kernel_rfl) (by kernel_rfl) .i32 (by kernel_rfl) (y := -1) (s := 0) hc hz (by simp [go_sem]; rfl)
  have hcv := run_convert_to_unsafe (P := Try.prog) (src := 84) (dst := 88) Try.underlying84 Try.underlying88 (by kernel_rfl) hc
  go_enter_d Try.func42, Try.ntmps42
  go_wp2
  go_end0
  go_wp2
  go_end0
  exact ⟨rfl, rfl⟩
end Go.Proofs.Ytkmhjfileiabeaa
