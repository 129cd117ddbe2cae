/-
  No cell of these rows narrows 'for every input' (looked for: loops, veiled, ifaces, maps, wideKeys, modest, calm, conditions, laid).
  DERIVED. THE GIVEN ROWS OF THIS SEAT. 10 by the template 'for every input the law returns true; each argument reads behind the call as it read before'; 0 by the template 'total and deterministic' (their statements: YtheocdfccdpmbaaTotals.lean).
  GIVEN WITH THE SEED: the statements are not yours to turn. If you find one false, say at which input.
  Laid BY PROGRAM, IN A SANDBOX (cutbox-rows.mjs): the forced cells as the released guide's own fill.sh prints them over the translation daddeb368737d861… (all of the seat's roots in one cut). By AI agents, Wed Nov 11 2026. No macro, syntax, notation, axiom, sorry.
-/
import Derived.Test.YtheocdfccdpmbaaChecked
import GoSem.Claim
import GoSem.ClaimJoined
import GoSem.ClaimMapViews
import Derived.JoinedTies
import Derived.KernelRfl
namespace Go.Proofs.Ytheocdfccdpmbaa
/- THE CELL 'sum', in the pinned program and in every row, IS THE sha256 OF THE DUMP (.gsa) THAT YtheocdfccdpmbaaProg.lean LOADS. Nothing in Lean hashes anything: it is a label: what it is worth is what the hold of that sum in a sandbox is worth. -/
noncomputable def Try.pinned : Pinned := { name := "ytheocdfccdpmbaa", sum := "daddeb368737d861418a62ea0e7c78e38b86ad7c13065929c4dae810425bcfbe", checked := Try.checked }
namespace Rows
def none {H : Type} : Left H := { results := [], args := [] }

/-- 'matinslaw08.WheelSteps': WHATEVER THE INPUT: true; the input reads as it did. -/
def wheelStepsSpec : ChangeSpec := { name := "wheelSteps", fn := fun _ => fun
  | [d1, d2, d3, d4] => { results := [.lit (.bool true)], args := [d1, d2, d3, d4] }
  | _ => none }
def wheelStepsRow : OpenClaim := { program := "ytheocdfccdpmbaa", sum := "daddeb368737d861418a62ea0e7c78e38b86ad7c13065929c4dae810425bcfbe", func := "matins/matinslaw08.WheelSteps", spec := "wheelSteps", unfollowed := true, recurses := true, apart := false }
def WheelStepsSaid : Prop := wheelStepsRow.holds Try.pinned (OpenSpec.ofChange wheelStepsSpec)

/-- ITS FALSE NEIGHBOUR: 'it returns false'. Refute it at one input. -/
def wheelStepsWrong : ChangeSpec := { name := "wheelSteps", fn := fun _ => fun
  | [d1, d2, d3, d4] => { results := [.lit (.bool false)], args := [d1, d2, d3, d4] }
  | _ => none }
def WheelStepsWrongFalsely : Prop := wheelStepsRow.holds Try.pinned (OpenSpec.ofChange wheelStepsWrong)

/-- 'matinslaw08.WheelOrder': WHATEVER THE INPUT: true; the input reads as it did. -/
def wheelOrderSpec : ChangeSpec := { name := "wheelOrder", fn := fun _ => fun
  | [d1, d2, d3] => { results := [.lit (.bool true)], args := [d1, d2, d3] }
  | _ => none }
def wheelOrderRow : OpenClaim := { program := "ytheocdfccdpmbaa", sum := "daddeb368737d861418a62ea0e7c78e38b86ad7c13065929c4dae810425bcfbe", func := "matins/matinslaw08.WheelOrder", spec := "wheelOrder", unfollowed := true, recurses := true, apart := false }
def WheelOrderSaid : Prop := wheelOrderRow.holds Try.pinned (OpenSpec.ofChange wheelOrderSpec)

/-- ITS FALSE NEIGHBOUR: 'it returns false'. Refute it at one input. -/
def wheelOrderWrong : ChangeSpec := { name := "wheelOrder", fn := fun _ => fun
  | [d1, d2, d3] => { results := [.lit (.bool false)], args := [d1, d2, d3] }
  | _ => none }
def WheelOrderWrongFalsely : Prop := wheelOrderRow.holds Try.pinned (OpenSpec.ofChange wheelOrderWrong)

/-- 'matinslaw09.DiskScripts': WHATEVER THE INPUT: true; the input reads as it did. -/
def diskScriptsSpec : ChangeSpec := { name := "diskScripts", fn := fun _ => fun
  | [d] => { results := [.lit (.bool true)], args := [d] }
  | _ => none }
def diskScriptsRow : OpenClaim := { program := "ytheocdfccdpmbaa", sum := "daddeb368737d861418a62ea0e7c78e38b86ad7c13065929c4dae810425bcfbe", func := "matins/matinslaw09.DiskScripts", spec := "diskScripts", unfollowed := true, recurses := true, apart := false }
def DiskScriptsSaid : Prop := diskScriptsRow.holds Try.pinned (OpenSpec.ofChange diskScriptsSpec)

/-- ITS FALSE NEIGHBOUR: 'it returns false'. Refute it at one input. -/
def diskScriptsWrong : ChangeSpec := { name := "diskScripts", fn := fun _ => fun
  | [d] => { results := [.lit (.bool false)], args := [d] }
  | _ => none }
def DiskScriptsWrongFalsely : Prop := diskScriptsRow.holds Try.pinned (OpenSpec.ofChange diskScriptsWrong)

/-- 'matinslaw09.DiskCrash': WHATEVER THE INPUT: true; the input reads as it did. -/
def diskCrashSpec : ChangeSpec := { name := "diskCrash", fn := fun _ => fun
  | [d1, d2, d3] => { results := [.lit (.bool true)], args := [d1, d2, d3] }
  | _ => none }
def diskCrashRow : OpenClaim := { program := "ytheocdfccdpmbaa", sum := "daddeb368737d861418a62ea0e7c78e38b86ad7c13065929c4dae810425bcfbe", func := "matins/matinslaw09.DiskCrash", spec := "diskCrash", unfollowed := true, recurses := true, apart := false }
def DiskCrashSaid : Prop := diskCrashRow.holds Try.pinned (OpenSpec.ofChange diskCrashSpec)

/-- ITS FALSE NEIGHBOUR: 'it returns false'. Refute it at one input. -/
def diskCrashWrong : ChangeSpec := { name := "diskCrash", fn := fun _ => fun
  | [d1, d2, d3] => { results := [.lit (.bool false)], args := [d1, d2, d3] }
  | _ => none }
def DiskCrashWrongFalsely : Prop := diskCrashRow.holds Try.pinned (OpenSpec.ofChange diskCrashWrong)

/-- 'matinslaw09.DiskApart': WHATEVER THE INPUT: true; the input reads as it did. -/
def diskApartSpec : ChangeSpec := { name := "diskApart", fn := fun _ => fun
  | [d] => { results := [.lit (.bool true)], args := [d] }
  | _ => none }
def diskApartRow : OpenClaim := { program := "ytheocdfccdpmbaa", sum := "daddeb368737d861418a62ea0e7c78e38b86ad7c13065929c4dae810425bcfbe", func := "matins/matinslaw09.DiskApart", spec := "diskApart", unfollowed := true, recurses := true, apart := false }
def DiskApartSaid : Prop := diskApartRow.holds Try.pinned (OpenSpec.ofChange diskApartSpec)

/-- ITS FALSE NEIGHBOUR: 'it returns false'. Refute it at one input. -/
def diskApartWrong : ChangeSpec := { name := "diskApart", fn := fun _ => fun
  | [d] => { results := [.lit (.bool false)], args := [d] }
  | _ => none }
def DiskApartWrongFalsely : Prop := diskApartRow.holds Try.pinned (OpenSpec.ofChange diskApartWrong)

/-- 'matinslaw09.DiskMore': WHATEVER THE INPUT: true; the input reads as it did. -/
def diskMoreSpec : ChangeSpec := { name := "diskMore", fn := fun _ => fun
  | [d1, d2, d3] => { results := [.lit (.bool true)], args := [d1, d2, d3] }
  | _ => none }
def diskMoreRow : OpenClaim := { program := "ytheocdfccdpmbaa", sum := "daddeb368737d861418a62ea0e7c78e38b86ad7c13065929c4dae810425bcfbe", func := "matins/matinslaw09.DiskMore", spec := "diskMore", unfollowed := true, recurses := true, apart := false }
def DiskMoreSaid : Prop := diskMoreRow.holds Try.pinned (OpenSpec.ofChange diskMoreSpec)

/-- ITS FALSE NEIGHBOUR: 'it returns false'. Refute it at one input. -/
def diskMoreWrong : ChangeSpec := { name := "diskMore", fn := fun _ => fun
  | [d1, d2, d3] => { results := [.lit (.bool false)], args := [d1, d2, d3] }
  | _ => none }
def DiskMoreWrongFalsely : Prop := diskMoreRow.holds Try.pinned (OpenSpec.ofChange diskMoreWrong)

/-- 'matinslaw09.DiskSynced': WHATEVER THE INPUT: true; the input reads as it did. -/
def diskSyncedSpec : ChangeSpec := { name := "diskSynced", fn := fun _ => fun
  | [d1, d2, d3] => { results := [.lit (.bool true)], args := [d1, d2, d3] }
  | _ => none }
def diskSyncedRow : OpenClaim := { program := "ytheocdfccdpmbaa", sum := "daddeb368737d861418a62ea0e7c78e38b86ad7c13065929c4dae810425bcfbe", func := "matins/matinslaw09.DiskSynced", spec := "diskSynced", unfollowed := true, recurses := true, apart := false }
def DiskSyncedSaid : Prop := diskSyncedRow.holds Try.pinned (OpenSpec.ofChange diskSyncedSpec)

/-- ITS FALSE NEIGHBOUR: 'it returns false'. Refute it at one input. -/
def diskSyncedWrong : ChangeSpec := { name := "diskSynced", fn := fun _ => fun
  | [d1, d2, d3] => { results := [.lit (.bool false)], args := [d1, d2, d3] }
  | _ => none }
def DiskSyncedWrongFalsely : Prop := diskSyncedRow.holds Try.pinned (OpenSpec.ofChange diskSyncedWrong)

/-- 'matinslaw08.WheelScripts': WHATEVER THE INPUT: true; the input reads as it did. -/
def wheelScriptsSpec : ChangeSpec := { name := "wheelScripts", fn := fun _ => fun
  | [d1, d2] => { results := [.lit (.bool true)], args := [d1, d2] }
  | _ => none }
def wheelScriptsRow : OpenClaim := { program := "ytheocdfccdpmbaa", sum := "daddeb368737d861418a62ea0e7c78e38b86ad7c13065929c4dae810425bcfbe", func := "matins/matinslaw08.WheelScripts", spec := "wheelScripts", unfollowed := true, recurses := true, apart := false }
def WheelScriptsSaid : Prop := wheelScriptsRow.holds Try.pinned (OpenSpec.ofChange wheelScriptsSpec)

/-- ITS FALSE NEIGHBOUR: 'it returns false'. Refute it at one input. -/
def wheelScriptsWrong : ChangeSpec := { name := "wheelScripts", fn := fun _ => fun
  | [d1, d2] => { results := [.lit (.bool false)], args := [d1, d2] }
  | _ => none }
def WheelScriptsWrongFalsely : Prop := wheelScriptsRow.holds Try.pinned (OpenSpec.ofChange wheelScriptsWrong)

/-- 'matinslaw08.WheelOnce': WHATEVER THE INPUT: true; the input reads as it did. -/
def wheelOnceSpec : ChangeSpec := { name := "wheelOnce", fn := fun _ => fun
  | [d1, d2, d3, d4] => { results := [.lit (.bool true)], args := [d1, d2, d3, d4] }
  | _ => none }
def wheelOnceRow : OpenClaim := { program := "ytheocdfccdpmbaa", sum := "daddeb368737d861418a62ea0e7c78e38b86ad7c13065929c4dae810425bcfbe", func := "matins/matinslaw08.WheelOnce", spec := "wheelOnce", unfollowed := true, recurses := true, apart := false }
def WheelOnceSaid : Prop := wheelOnceRow.holds Try.pinned (OpenSpec.ofChange wheelOnceSpec)

/-- ITS FALSE NEIGHBOUR: 'it returns false'. Refute it at one input. -/
def wheelOnceWrong : ChangeSpec := { name := "wheelOnce", fn := fun _ => fun
  | [d1, d2, d3, d4] => { results := [.lit (.bool false)], args := [d1, d2, d3, d4] }
  | _ => none }
def WheelOnceWrongFalsely : Prop := wheelOnceRow.holds Try.pinned (OpenSpec.ofChange wheelOnceWrong)

/-- 'matinslaw08.WheelCancels': WHATEVER THE INPUT: true; the input reads as it did. -/
def wheelCancelsSpec : ChangeSpec := { name := "wheelCancels", fn := fun _ => fun
  | [d1, d2, d3, d4] => { results := [.lit (.bool true)], args := [d1, d2, d3, d4] }
  | _ => none }
def wheelCancelsRow : OpenClaim := { program := "ytheocdfccdpmbaa", sum := "daddeb368737d861418a62ea0e7c78e38b86ad7c13065929c4dae810425bcfbe", func := "matins/matinslaw08.WheelCancels", spec := "wheelCancels", unfollowed := true, recurses := true, apart := false }
def WheelCancelsSaid : Prop := wheelCancelsRow.holds Try.pinned (OpenSpec.ofChange wheelCancelsSpec)

/-- ITS FALSE NEIGHBOUR: 'it returns false'. Refute it at one input. -/
def wheelCancelsWrong : ChangeSpec := { name := "wheelCancels", fn := fun _ => fun
  | [d1, d2, d3, d4] => { results := [.lit (.bool false)], args := [d1, d2, d3, d4] }
  | _ => none }
def WheelCancelsWrongFalsely : Prop := wheelCancelsRow.holds Try.pinned (OpenSpec.ofChange wheelCancelsWrong)

/- THE SECOND FORM. 'bulk': how many values and letters a reading holds, each counted each time it is reached (what is shared counts as often as it is met; a slice's spare places count too). A statement '..UptoSaid' is the law's where the arguments, and the package variables that the reading takes, are together of bulk at most 1048576: NARROWER than '..Said'. Prove '..Said' where nothing that the law and all that it calls make is longer than what came in: it says more and counts as full. Else prove '..UptoSaid'. A law counts once. -/
mutual
def uptoBulk {H : Type} : DataW H → Nat
  | .lit (.string bytes) => bytes.length + 1
  | .lit _ => 1
  | .nil => 1
  | .ptr d => uptoBulk d + 1
  | .slice elems spare => uptoBulkAll elems + uptoBulkAll spare + 1
  | .agg parts => uptoBulkAll parts + 1
  | .iface _ d => uptoBulk d + 1
  | .map entries => uptoBulkEntries entries + 1
  | .held _ => 1
def uptoBulkAll {H : Type} : List (DataW H) → Nat
  | [] => 0
  | d :: r => uptoBulk d + uptoBulkAll r
def uptoBulkEntries {H : Type} : List (Lit × DataW H) → Nat
  | [] => 0
  | x :: r => uptoBulkEntry x + uptoBulkEntries r
def uptoBulkEntry {H : Type} : Lit × DataW H → Nat
  | (.string bytes, d) => bytes.length + uptoBulk d + 1
  | (_, d) => uptoBulk d + 1
 end
def uptoSmall : (H : Type) → List (DataW H) → Bool := fun _ ds => decide (uptoBulkAll ds ≤ 1048576)
def OpenSpec.upto (s : _root_.Go.ChangeSpec) : _root_.Go.OpenSpec := { _root_.Go.OpenSpec.ofChange s with cond := some uptoSmall }

/-- 'matinslaw08.WheelSteps', WHERE WHAT IT READS IS OF BULK AT MOST 1048576: true; the input reads as it did. -/
def wheelStepsUptoRow : OpenClaim := { program := "ytheocdfccdpmbaa", sum := "daddeb368737d861418a62ea0e7c78e38b86ad7c13065929c4dae810425bcfbe", func := "matins/matinslaw08.WheelSteps", spec := "wheelSteps", unfollowed := true, recurses := true, apart := false, narrowed := true }
def WheelStepsUptoSaid : Prop := wheelStepsUptoRow.holds Try.pinned (OpenSpec.upto wheelStepsSpec)

/-- 'matinslaw08.WheelOrder', WHERE WHAT IT READS IS OF BULK AT MOST 1048576: true; the input reads as it did. -/
def wheelOrderUptoRow : OpenClaim := { program := "ytheocdfccdpmbaa", sum := "daddeb368737d861418a62ea0e7c78e38b86ad7c13065929c4dae810425bcfbe", func := "matins/matinslaw08.WheelOrder", spec := "wheelOrder", unfollowed := true, recurses := true, apart := false, narrowed := true }
def WheelOrderUptoSaid : Prop := wheelOrderUptoRow.holds Try.pinned (OpenSpec.upto wheelOrderSpec)

/-- 'matinslaw09.DiskScripts', WHERE WHAT IT READS IS OF BULK AT MOST 1048576: true; the input reads as it did. -/
def diskScriptsUptoRow : OpenClaim := { program := "ytheocdfccdpmbaa", sum := "daddeb368737d861418a62ea0e7c78e38b86ad7c13065929c4dae810425bcfbe", func := "matins/matinslaw09.DiskScripts", spec := "diskScripts", unfollowed := true, recurses := true, apart := false, narrowed := true }
def DiskScriptsUptoSaid : Prop := diskScriptsUptoRow.holds Try.pinned (OpenSpec.upto diskScriptsSpec)

/-- 'matinslaw09.DiskCrash', WHERE WHAT IT READS IS OF BULK AT MOST 1048576: true; the input reads as it did. -/
def diskCrashUptoRow : OpenClaim := { program := "ytheocdfccdpmbaa", sum := "daddeb368737d861418a62ea0e7c78e38b86ad7c13065929c4dae810425bcfbe", func := "matins/matinslaw09.DiskCrash", spec := "diskCrash", unfollowed := true, recurses := true, apart := false, narrowed := true }
def DiskCrashUptoSaid : Prop := diskCrashUptoRow.holds Try.pinned (OpenSpec.upto diskCrashSpec)

/-- 'matinslaw09.DiskApart', WHERE WHAT IT READS IS OF BULK AT MOST 1048576: true; the input reads as it did. -/
def diskApartUptoRow : OpenClaim := { program := "ytheocdfccdpmbaa", sum := "daddeb368737d861418a62ea0e7c78e38b86ad7c13065929c4dae810425bcfbe", func := "matins/matinslaw09.DiskApart", spec := "diskApart", unfollowed := true, recurses := true, apart := false, narrowed := true }
def DiskApartUptoSaid : Prop := diskApartUptoRow.holds Try.pinned (OpenSpec.upto diskApartSpec)

/-- 'matinslaw09.DiskMore', WHERE WHAT IT READS IS OF BULK AT MOST 1048576: true; the input reads as it did. -/
def diskMoreUptoRow : OpenClaim := { program := "ytheocdfccdpmbaa", sum := "daddeb368737d861418a62ea0e7c78e38b86ad7c13065929c4dae810425bcfbe", func := "matins/matinslaw09.DiskMore", spec := "diskMore", unfollowed := true, recurses := true, apart := false, narrowed := true }
def DiskMoreUptoSaid : Prop := diskMoreUptoRow.holds Try.pinned (OpenSpec.upto diskMoreSpec)

/-- 'matinslaw09.DiskSynced', WHERE WHAT IT READS IS OF BULK AT MOST 1048576: true; the input reads as it did. -/
def diskSyncedUptoRow : OpenClaim := { program := "ytheocdfccdpmbaa", sum := "daddeb368737d861418a62ea0e7c78e38b86ad7c13065929c4dae810425bcfbe", func := "matins/matinslaw09.DiskSynced", spec := "diskSynced", unfollowed := true, recurses := true, apart := false, narrowed := true }
def DiskSyncedUptoSaid : Prop := diskSyncedUptoRow.holds Try.pinned (OpenSpec.upto diskSyncedSpec)

/-- 'matinslaw08.WheelScripts', WHERE WHAT IT READS IS OF BULK AT MOST 1048576: true; the input reads as it did. -/
def wheelScriptsUptoRow : OpenClaim := { program := "ytheocdfccdpmbaa", sum := "daddeb368737d861418a62ea0e7c78e38b86ad7c13065929c4dae810425bcfbe", func := "matins/matinslaw08.WheelScripts", spec := "wheelScripts", unfollowed := true, recurses := true, apart := false, narrowed := true }
def WheelScriptsUptoSaid : Prop := wheelScriptsUptoRow.holds Try.pinned (OpenSpec.upto wheelScriptsSpec)

/-- 'matinslaw08.WheelOnce', WHERE WHAT IT READS IS OF BULK AT MOST 1048576: true; the input reads as it did. -/
def wheelOnceUptoRow : OpenClaim := { program := "ytheocdfccdpmbaa", sum := "daddeb368737d861418a62ea0e7c78e38b86ad7c13065929c4dae810425bcfbe", func := "matins/matinslaw08.WheelOnce", spec := "wheelOnce", unfollowed := true, recurses := true, apart := false, narrowed := true }
def WheelOnceUptoSaid : Prop := wheelOnceUptoRow.holds Try.pinned (OpenSpec.upto wheelOnceSpec)

/-- 'matinslaw08.WheelCancels', WHERE WHAT IT READS IS OF BULK AT MOST 1048576: true; the input reads as it did. -/
def wheelCancelsUptoRow : OpenClaim := { program := "ytheocdfccdpmbaa", sum := "daddeb368737d861418a62ea0e7c78e38b86ad7c13065929c4dae810425bcfbe", func := "matins/matinslaw08.WheelCancels", spec := "wheelCancels", unfollowed := true, recurses := true, apart := false, narrowed := true }
def WheelCancelsUptoSaid : Prop := wheelCancelsUptoRow.holds Try.pinned (OpenSpec.upto wheelCancelsSpec)

end Rows
end Go.Proofs.Ytheocdfccdpmbaa
