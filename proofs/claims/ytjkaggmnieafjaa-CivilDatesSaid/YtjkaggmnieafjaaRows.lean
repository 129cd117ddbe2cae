/-
  No cell of these rows narrows 'for every input' (looked for: loops, veiled, ifaces, maps, wideKeys, modest, calm, conditions, laid).
  DERIVED. THE GIVEN ROWS OF THIS SEAT. 10 by the template 'for every input the law returns true; each argument reads behind the call as it read before'; 0 by the template 'total and deterministic' (their statements: YtjkaggmnieafjaaTotals.lean).
  GIVEN WITH THE SEED: the statements are not yours to turn. If you find one false, say at which input.
  Laid BY PROGRAM, IN A SANDBOX (cutbox-rows.mjs): the forced cells as the released guide's own fill.sh prints them over the translation a111cc4884504105… (all of the seat's roots in one cut). By AI agents, Wed Nov 11 2026. No macro, syntax, notation, axiom, sorry.
-/
import Derived.Test.YtjkaggmnieafjaaChecked
import GoSem.Claim
import GoSem.ClaimJoined
import GoSem.ClaimMapViews
import Derived.JoinedTies
import Derived.KernelRfl
namespace Go.Proofs.Ytjkaggmnieafjaa
/- THE CELL 'sum', in the pinned program and in every row, IS THE sha256 OF THE DUMP (.gsa) THAT YtjkaggmnieafjaaProg.lean LOADS. Nothing in Lean hashes anything: it is a label: what it is worth is what the hold of that sum in a sandbox is worth. -/
noncomputable def Try.pinned : Pinned := { name := "ytjkaggmnieafjaa", sum := "a111cc4884504105715d14a79c413764d7b5941b59970b1af8d938a556c6f582", checked := Try.checked }
namespace Rows
def none {H : Type} : Left H := { results := [], args := [] }

/-- 'matinslaw04.CivilDates': WHATEVER THE INPUT: true; the input reads as it did. -/
def civilDatesSpec : ChangeSpec := { name := "civilDates", fn := fun _ => fun
  | [d1, d2] => { results := [.lit (.bool true)], args := [d1, d2] }
  | _ => none }
def civilDatesRow : OpenClaim := { program := "ytjkaggmnieafjaa", sum := "a111cc4884504105715d14a79c413764d7b5941b59970b1af8d938a556c6f582", func := "matins/matinslaw04.CivilDates", spec := "civilDates", apart := false }
def CivilDatesSaid : Prop := civilDatesRow.holds Try.pinned (OpenSpec.ofChange civilDatesSpec)

/-- ITS FALSE NEIGHBOUR: 'it returns false'. Refute it at one input. -/
def civilDatesWrong : ChangeSpec := { name := "civilDates", fn := fun _ => fun
  | [d1, d2] => { results := [.lit (.bool false)], args := [d1, d2] }
  | _ => none }
def CivilDatesWrongFalsely : Prop := civilDatesRow.holds Try.pinned (OpenSpec.ofChange civilDatesWrong)

/-- 'matinslaw04.CivilMonths': WHATEVER THE INPUT: true; the input reads as it did. -/
def civilMonthsSpec : ChangeSpec := { name := "civilMonths", fn := fun _ => fun
  | [d1, d2, d3, d4] => { results := [.lit (.bool true)], args := [d1, d2, d3, d4] }
  | _ => none }
def civilMonthsRow : OpenClaim := { program := "ytjkaggmnieafjaa", sum := "a111cc4884504105715d14a79c413764d7b5941b59970b1af8d938a556c6f582", func := "matins/matinslaw04.CivilMonths", spec := "civilMonths", apart := false }
def CivilMonthsSaid : Prop := civilMonthsRow.holds Try.pinned (OpenSpec.ofChange civilMonthsSpec)

/-- ITS FALSE NEIGHBOUR: 'it returns false'. Refute it at one input. -/
def civilMonthsWrong : ChangeSpec := { name := "civilMonths", fn := fun _ => fun
  | [d1, d2, d3, d4] => { results := [.lit (.bool false)], args := [d1, d2, d3, d4] }
  | _ => none }
def CivilMonthsWrongFalsely : Prop := civilMonthsRow.holds Try.pinned (OpenSpec.ofChange civilMonthsWrong)

/-- 'matinslaw04.CivilSteps': WHATEVER THE INPUT: true; the input reads as it did. -/
def civilStepsSpec : ChangeSpec := { name := "civilSteps", fn := fun _ => fun
  | [d] => { results := [.lit (.bool true)], args := [d] }
  | _ => none }
def civilStepsRow : OpenClaim := { program := "ytjkaggmnieafjaa", sum := "a111cc4884504105715d14a79c413764d7b5941b59970b1af8d938a556c6f582", func := "matins/matinslaw04.CivilSteps", spec := "civilSteps", apart := false }
def CivilStepsSaid : Prop := civilStepsRow.holds Try.pinned (OpenSpec.ofChange civilStepsSpec)

/-- ITS FALSE NEIGHBOUR: 'it returns false'. Refute it at one input. -/
def civilStepsWrong : ChangeSpec := { name := "civilSteps", fn := fun _ => fun
  | [d] => { results := [.lit (.bool false)], args := [d] }
  | _ => none }
def CivilStepsWrongFalsely : Prop := civilStepsRow.holds Try.pinned (OpenSpec.ofChange civilStepsWrong)

/-- 'matinslaw04.CivilFours': WHATEVER THE INPUT: true; the input reads as it did. -/
def civilFoursSpec : ChangeSpec := { name := "civilFours", fn := fun _ => fun
  | [d] => { results := [.lit (.bool true)], args := [d] }
  | _ => none }
def civilFoursRow : OpenClaim := { program := "ytjkaggmnieafjaa", sum := "a111cc4884504105715d14a79c413764d7b5941b59970b1af8d938a556c6f582", func := "matins/matinslaw04.CivilFours", spec := "civilFours", apart := false }
def CivilFoursSaid : Prop := civilFoursRow.holds Try.pinned (OpenSpec.ofChange civilFoursSpec)

/-- ITS FALSE NEIGHBOUR: 'it returns false'. Refute it at one input. -/
def civilFoursWrong : ChangeSpec := { name := "civilFours", fn := fun _ => fun
  | [d] => { results := [.lit (.bool false)], args := [d] }
  | _ => none }
def CivilFoursWrongFalsely : Prop := civilFoursRow.holds Try.pinned (OpenSpec.ofChange civilFoursWrong)

/-- 'matinslaw04.CivilNth': WHATEVER THE INPUT: true; the input reads as it did. -/
def civilNthSpec : ChangeSpec := { name := "civilNth", fn := fun _ => fun
  | [d1, d2, d3] => { results := [.lit (.bool true)], args := [d1, d2, d3] }
  | _ => none }
def civilNthRow : OpenClaim := { program := "ytjkaggmnieafjaa", sum := "a111cc4884504105715d14a79c413764d7b5941b59970b1af8d938a556c6f582", func := "matins/matinslaw04.CivilNth", spec := "civilNth", apart := false }
def CivilNthSaid : Prop := civilNthRow.holds Try.pinned (OpenSpec.ofChange civilNthSpec)

/-- ITS FALSE NEIGHBOUR: 'it returns false'. Refute it at one input. -/
def civilNthWrong : ChangeSpec := { name := "civilNth", fn := fun _ => fun
  | [d1, d2, d3] => { results := [.lit (.bool false)], args := [d1, d2, d3] }
  | _ => none }
def CivilNthWrongFalsely : Prop := civilNthRow.holds Try.pinned (OpenSpec.ofChange civilNthWrong)

/-- 'matinslaw05.ZoneNames': WHATEVER THE INPUT: true; the input reads as it did. -/
def zoneNamesSpec : ChangeSpec := { name := "zoneNames", fn := fun _ => fun
  | [d] => { results := [.lit (.bool true)], args := [d] }
  | _ => none }
def zoneNamesRow : OpenClaim := { program := "ytjkaggmnieafjaa", sum := "a111cc4884504105715d14a79c413764d7b5941b59970b1af8d938a556c6f582", func := "matins/matinslaw05.ZoneNames", spec := "zoneNames", inPlace := ["sync/atomic.LoadUint32", "(*internal/sync.Mutex).Lock", "internal/race.Disable", "sync/atomic.CompareAndSwapInt32", "internal/race.Enable", "internal/race.Acquire", "(*internal/sync.Mutex).lockSlow", "internal/sync.runtime_canSpin", "internal/sync.runtime_doSpin", "internal/sync.throw", "internal/sync.runtime_nanotime", "internal/sync.runtime_SemacquireMutex", "sync/atomic.AddInt32", "(*internal/sync.Mutex).Unlock", "internal/race.ReleaseMerge", "(*internal/sync.Mutex).unlockSlow", "internal/sync.fatal", "internal/sync.runtime_Semrelease", "sync/atomic.StoreUint32"], unfollowed := true, recurses := true, apart := false }
def ZoneNamesSaid : Prop := zoneNamesRow.holds Try.pinned (OpenSpec.ofChange zoneNamesSpec)

/-- ITS FALSE NEIGHBOUR: 'it returns false'. Refute it at one input. -/
def zoneNamesWrong : ChangeSpec := { name := "zoneNames", fn := fun _ => fun
  | [d] => { results := [.lit (.bool false)], args := [d] }
  | _ => none }
def ZoneNamesWrongFalsely : Prop := zoneNamesRow.holds Try.pinned (OpenSpec.ofChange zoneNamesWrong)

/-- 'matinslaw05.ZoneTurns': WHATEVER THE INPUT: true; the input reads as it did. -/
def zoneTurnsSpec : ChangeSpec := { name := "zoneTurns", fn := fun _ => fun
  | [d1, d2, d3] => { results := [.lit (.bool true)], args := [d1, d2, d3] }
  | _ => none }
def zoneTurnsRow : OpenClaim := { program := "ytjkaggmnieafjaa", sum := "a111cc4884504105715d14a79c413764d7b5941b59970b1af8d938a556c6f582", func := "matins/matinslaw05.ZoneTurns", spec := "zoneTurns", inPlace := ["sync/atomic.LoadUint32", "(*internal/sync.Mutex).Lock", "internal/race.Disable", "sync/atomic.CompareAndSwapInt32", "internal/race.Enable", "internal/race.Acquire", "(*internal/sync.Mutex).lockSlow", "internal/sync.runtime_canSpin", "internal/sync.runtime_doSpin", "internal/sync.throw", "internal/sync.runtime_nanotime", "internal/sync.runtime_SemacquireMutex", "sync/atomic.AddInt32", "(*internal/sync.Mutex).Unlock", "internal/race.ReleaseMerge", "(*internal/sync.Mutex).unlockSlow", "internal/sync.fatal", "internal/sync.runtime_Semrelease", "sync/atomic.StoreUint32"], unfollowed := true, recurses := true, apart := false }
def ZoneTurnsSaid : Prop := zoneTurnsRow.holds Try.pinned (OpenSpec.ofChange zoneTurnsSpec)

/-- ITS FALSE NEIGHBOUR: 'it returns false'. Refute it at one input. -/
def zoneTurnsWrong : ChangeSpec := { name := "zoneTurns", fn := fun _ => fun
  | [d1, d2, d3] => { results := [.lit (.bool false)], args := [d1, d2, d3] }
  | _ => none }
def ZoneTurnsWrongFalsely : Prop := zoneTurnsRow.holds Try.pinned (OpenSpec.ofChange zoneTurnsWrong)

/-- 'matinslaw05.ZoneInstants': WHATEVER THE INPUT: true; the input reads as it did. -/
def zoneInstantsSpec : ChangeSpec := { name := "zoneInstants", fn := fun _ => fun
  | [d1, d2] => { results := [.lit (.bool true)], args := [d1, d2] }
  | _ => none }
def zoneInstantsRow : OpenClaim := { program := "ytjkaggmnieafjaa", sum := "a111cc4884504105715d14a79c413764d7b5941b59970b1af8d938a556c6f582", func := "matins/matinslaw05.ZoneInstants", spec := "zoneInstants", inPlace := ["sync/atomic.LoadUint32", "(*internal/sync.Mutex).Lock", "internal/race.Disable", "sync/atomic.CompareAndSwapInt32", "internal/race.Enable", "internal/race.Acquire", "(*internal/sync.Mutex).lockSlow", "internal/sync.runtime_canSpin", "internal/sync.runtime_doSpin", "internal/sync.throw", "internal/sync.runtime_nanotime", "internal/sync.runtime_SemacquireMutex", "sync/atomic.AddInt32", "(*internal/sync.Mutex).Unlock", "internal/race.ReleaseMerge", "(*internal/sync.Mutex).unlockSlow", "internal/sync.fatal", "internal/sync.runtime_Semrelease", "sync/atomic.StoreUint32"], unfollowed := true, recurses := true, apart := false }
def ZoneInstantsSaid : Prop := zoneInstantsRow.holds Try.pinned (OpenSpec.ofChange zoneInstantsSpec)

/-- ITS FALSE NEIGHBOUR: 'it returns false'. Refute it at one input. -/
def zoneInstantsWrong : ChangeSpec := { name := "zoneInstants", fn := fun _ => fun
  | [d1, d2] => { results := [.lit (.bool false)], args := [d1, d2] }
  | _ => none }
def ZoneInstantsWrongFalsely : Prop := zoneInstantsRow.holds Try.pinned (OpenSpec.ofChange zoneInstantsWrong)

/-- 'matinslaw05.ZoneBack': WHATEVER THE INPUT: true; the input reads as it did. -/
def zoneBackSpec : ChangeSpec := { name := "zoneBack", fn := fun _ => fun
  | [d1, d2] => { results := [.lit (.bool true)], args := [d1, d2] }
  | _ => none }
def zoneBackRow : OpenClaim := { program := "ytjkaggmnieafjaa", sum := "a111cc4884504105715d14a79c413764d7b5941b59970b1af8d938a556c6f582", func := "matins/matinslaw05.ZoneBack", spec := "zoneBack", inPlace := ["sync/atomic.LoadUint32", "(*internal/sync.Mutex).Lock", "internal/race.Disable", "sync/atomic.CompareAndSwapInt32", "internal/race.Enable", "internal/race.Acquire", "(*internal/sync.Mutex).lockSlow", "internal/sync.runtime_canSpin", "internal/sync.runtime_doSpin", "internal/sync.throw", "internal/sync.runtime_nanotime", "internal/sync.runtime_SemacquireMutex", "sync/atomic.AddInt32", "(*internal/sync.Mutex).Unlock", "internal/race.ReleaseMerge", "(*internal/sync.Mutex).unlockSlow", "internal/sync.fatal", "internal/sync.runtime_Semrelease", "sync/atomic.StoreUint32"], unfollowed := true, recurses := true, apart := false }
def ZoneBackSaid : Prop := zoneBackRow.holds Try.pinned (OpenSpec.ofChange zoneBackSpec)

/-- ITS FALSE NEIGHBOUR: 'it returns false'. Refute it at one input. -/
def zoneBackWrong : ChangeSpec := { name := "zoneBack", fn := fun _ => fun
  | [d1, d2] => { results := [.lit (.bool false)], args := [d1, d2] }
  | _ => none }
def ZoneBackWrongFalsely : Prop := zoneBackRow.holds Try.pinned (OpenSpec.ofChange zoneBackWrong)

/-- 'matinslaw05.ZoneDay': WHATEVER THE INPUT: true; the input reads as it did. -/
def zoneDaySpec : ChangeSpec := { name := "zoneDay", fn := fun _ => fun
  | [d1, d2] => { results := [.lit (.bool true)], args := [d1, d2] }
  | _ => none }
def zoneDayRow : OpenClaim := { program := "ytjkaggmnieafjaa", sum := "a111cc4884504105715d14a79c413764d7b5941b59970b1af8d938a556c6f582", func := "matins/matinslaw05.ZoneDay", spec := "zoneDay", inPlace := ["sync/atomic.LoadUint32", "(*internal/sync.Mutex).Lock", "internal/race.Disable", "sync/atomic.CompareAndSwapInt32", "internal/race.Enable", "internal/race.Acquire", "(*internal/sync.Mutex).lockSlow", "internal/sync.runtime_canSpin", "internal/sync.runtime_doSpin", "internal/sync.throw", "internal/sync.runtime_nanotime", "internal/sync.runtime_SemacquireMutex", "sync/atomic.AddInt32", "(*internal/sync.Mutex).Unlock", "internal/race.ReleaseMerge", "(*internal/sync.Mutex).unlockSlow", "internal/sync.fatal", "internal/sync.runtime_Semrelease", "sync/atomic.StoreUint32"], unfollowed := true, recurses := true, apart := false }
def ZoneDaySaid : Prop := zoneDayRow.holds Try.pinned (OpenSpec.ofChange zoneDaySpec)

/-- ITS FALSE NEIGHBOUR: 'it returns false'. Refute it at one input. -/
def zoneDayWrong : ChangeSpec := { name := "zoneDay", fn := fun _ => fun
  | [d1, d2] => { results := [.lit (.bool false)], args := [d1, d2] }
  | _ => none }
def ZoneDayWrongFalsely : Prop := zoneDayRow.holds Try.pinned (OpenSpec.ofChange zoneDayWrong)

/- THE SECOND FORM. 'bulk': how many values and letters a reading holds, each counted each time it is reached (what is shared counts as often as it is met; a slice's spare places count too). A statement '..UptoSaid' is the law's where the arguments, and the package variables that the reading takes, are together of bulk at most 1048576: NARROWER than '..Said'. Prove '..Said' where nothing that the law and all that it calls make is longer than what came in: it says more and counts as full. Else prove '..UptoSaid'. A law counts once. -/
mutual
def uptoBulk {H : Type} : DataW H → Nat
  | .lit (.string bytes) => bytes.length + 1
  | .lit _ => 1
  | .nil => 1
  | .ptr d => uptoBulk d + 1
  | .slice elems spare => uptoBulkAll elems + uptoBulkAll spare + 1
  | .agg parts => uptoBulkAll parts + 1
  | .iface _ d => uptoBulk d + 1
  | .map entries => uptoBulkEntries entries + 1
  | .held _ => 1
def uptoBulkAll {H : Type} : List (DataW H) → Nat
  | [] => 0
  | d :: r => uptoBulk d + uptoBulkAll r
def uptoBulkEntries {H : Type} : List (Lit × DataW H) → Nat
  | [] => 0
  | x :: r => uptoBulkEntry x + uptoBulkEntries r
def uptoBulkEntry {H : Type} : Lit × DataW H → Nat
  | (.string bytes, d) => bytes.length + uptoBulk d + 1
  | (_, d) => uptoBulk d + 1
 end
def uptoSmall : (H : Type) → List (DataW H) → Bool := fun _ ds => decide (uptoBulkAll ds ≤ 1048576)
def OpenSpec.upto (s : _root_.Go.ChangeSpec) : _root_.Go.OpenSpec := { _root_.Go.OpenSpec.ofChange s with cond := some uptoSmall }

/-- 'matinslaw04.CivilDates', WHERE WHAT IT READS IS OF BULK AT MOST 1048576: true; the input reads as it did. -/
def civilDatesUptoRow : OpenClaim := { program := "ytjkaggmnieafjaa", sum := "a111cc4884504105715d14a79c413764d7b5941b59970b1af8d938a556c6f582", func := "matins/matinslaw04.CivilDates", spec := "civilDates", apart := false, narrowed := true }
def CivilDatesUptoSaid : Prop := civilDatesUptoRow.holds Try.pinned (OpenSpec.upto civilDatesSpec)

/-- 'matinslaw04.CivilMonths', WHERE WHAT IT READS IS OF BULK AT MOST 1048576: true; the input reads as it did. -/
def civilMonthsUptoRow : OpenClaim := { program := "ytjkaggmnieafjaa", sum := "a111cc4884504105715d14a79c413764d7b5941b59970b1af8d938a556c6f582", func := "matins/matinslaw04.CivilMonths", spec := "civilMonths", apart := false, narrowed := true }
def CivilMonthsUptoSaid : Prop := civilMonthsUptoRow.holds Try.pinned (OpenSpec.upto civilMonthsSpec)

/-- 'matinslaw04.CivilSteps', WHERE WHAT IT READS IS OF BULK AT MOST 1048576: true; the input reads as it did. -/
def civilStepsUptoRow : OpenClaim := { program := "ytjkaggmnieafjaa", sum := "a111cc4884504105715d14a79c413764d7b5941b59970b1af8d938a556c6f582", func := "matins/matinslaw04.CivilSteps", spec := "civilSteps", apart := false, narrowed := true }
def CivilStepsUptoSaid : Prop := civilStepsUptoRow.holds Try.pinned (OpenSpec.upto civilStepsSpec)

/-- 'matinslaw04.CivilFours', WHERE WHAT IT READS IS OF BULK AT MOST 1048576: true; the input reads as it did. -/
def civilFoursUptoRow : OpenClaim := { program := "ytjkaggmnieafjaa", sum := "a111cc4884504105715d14a79c413764d7b5941b59970b1af8d938a556c6f582", func := "matins/matinslaw04.CivilFours", spec := "civilFours", apart := false, narrowed := true }
def CivilFoursUptoSaid : Prop := civilFoursUptoRow.holds Try.pinned (OpenSpec.upto civilFoursSpec)

/-- 'matinslaw04.CivilNth', WHERE WHAT IT READS IS OF BULK AT MOST 1048576: true; the input reads as it did. -/
def civilNthUptoRow : OpenClaim := { program := "ytjkaggmnieafjaa", sum := "a111cc4884504105715d14a79c413764d7b5941b59970b1af8d938a556c6f582", func := "matins/matinslaw04.CivilNth", spec := "civilNth", apart := false, narrowed := true }
def CivilNthUptoSaid : Prop := civilNthUptoRow.holds Try.pinned (OpenSpec.upto civilNthSpec)

/-- 'matinslaw05.ZoneNames', WHERE WHAT IT READS IS OF BULK AT MOST 1048576: true; the input reads as it did. -/
def zoneNamesUptoRow : OpenClaim := { program := "ytjkaggmnieafjaa", sum := "a111cc4884504105715d14a79c413764d7b5941b59970b1af8d938a556c6f582", func := "matins/matinslaw05.ZoneNames", spec := "zoneNames", inPlace := ["sync/atomic.LoadUint32", "(*internal/sync.Mutex).Lock", "internal/race.Disable", "sync/atomic.CompareAndSwapInt32", "internal/race.Enable", "internal/race.Acquire", "(*internal/sync.Mutex).lockSlow", "internal/sync.runtime_canSpin", "internal/sync.runtime_doSpin", "internal/sync.throw", "internal/sync.runtime_nanotime", "internal/sync.runtime_SemacquireMutex", "sync/atomic.AddInt32", "(*internal/sync.Mutex).Unlock", "internal/race.ReleaseMerge", "(*internal/sync.Mutex).unlockSlow", "internal/sync.fatal", "internal/sync.runtime_Semrelease", "sync/atomic.StoreUint32"], unfollowed := true, recurses := true, apart := false, narrowed := true }
def ZoneNamesUptoSaid : Prop := zoneNamesUptoRow.holds Try.pinned (OpenSpec.upto zoneNamesSpec)

/-- 'matinslaw05.ZoneTurns', WHERE WHAT IT READS IS OF BULK AT MOST 1048576: true; the input reads as it did. -/
def zoneTurnsUptoRow : OpenClaim := { program := "ytjkaggmnieafjaa", sum := "a111cc4884504105715d14a79c413764d7b5941b59970b1af8d938a556c6f582", func := "matins/matinslaw05.ZoneTurns", spec := "zoneTurns", inPlace := ["sync/atomic.LoadUint32", "(*internal/sync.Mutex).Lock", "internal/race.Disable", "sync/atomic.CompareAndSwapInt32", "internal/race.Enable", "internal/race.Acquire", "(*internal/sync.Mutex).lockSlow", "internal/sync.runtime_canSpin", "internal/sync.runtime_doSpin", "internal/sync.throw", "internal/sync.runtime_nanotime", "internal/sync.runtime_SemacquireMutex", "sync/atomic.AddInt32", "(*internal/sync.Mutex).Unlock", "internal/race.ReleaseMerge", "(*internal/sync.Mutex).unlockSlow", "internal/sync.fatal", "internal/sync.runtime_Semrelease", "sync/atomic.StoreUint32"], unfollowed := true, recurses := true, apart := false, narrowed := true }
def ZoneTurnsUptoSaid : Prop := zoneTurnsUptoRow.holds Try.pinned (OpenSpec.upto zoneTurnsSpec)

/-- 'matinslaw05.ZoneInstants', WHERE WHAT IT READS IS OF BULK AT MOST 1048576: true; the input reads as it did. -/
def zoneInstantsUptoRow : OpenClaim := { program := "ytjkaggmnieafjaa", sum := "a111cc4884504105715d14a79c413764d7b5941b59970b1af8d938a556c6f582", func := "matins/matinslaw05.ZoneInstants", spec := "zoneInstants", inPlace := ["sync/atomic.LoadUint32", "(*internal/sync.Mutex).Lock", "internal/race.Disable", "sync/atomic.CompareAndSwapInt32", "internal/race.Enable", "internal/race.Acquire", "(*internal/sync.Mutex).lockSlow", "internal/sync.runtime_canSpin", "internal/sync.runtime_doSpin", "internal/sync.throw", "internal/sync.runtime_nanotime", "internal/sync.runtime_SemacquireMutex", "sync/atomic.AddInt32", "(*internal/sync.Mutex).Unlock", "internal/race.ReleaseMerge", "(*internal/sync.Mutex).unlockSlow", "internal/sync.fatal", "internal/sync.runtime_Semrelease", "sync/atomic.StoreUint32"], unfollowed := true, recurses := true, apart := false, narrowed := true }
def ZoneInstantsUptoSaid : Prop := zoneInstantsUptoRow.holds Try.pinned (OpenSpec.upto zoneInstantsSpec)

/-- 'matinslaw05.ZoneBack', WHERE WHAT IT READS IS OF BULK AT MOST 1048576: true; the input reads as it did. -/
def zoneBackUptoRow : OpenClaim := { program := "ytjkaggmnieafjaa", sum := "a111cc4884504105715d14a79c413764d7b5941b59970b1af8d938a556c6f582", func := "matins/matinslaw05.ZoneBack", spec := "zoneBack", inPlace := ["sync/atomic.LoadUint32", "(*internal/sync.Mutex).Lock", "internal/race.Disable", "sync/atomic.CompareAndSwapInt32", "internal/race.Enable", "internal/race.Acquire", "(*internal/sync.Mutex).lockSlow", "internal/sync.runtime_canSpin", "internal/sync.runtime_doSpin", "internal/sync.throw", "internal/sync.runtime_nanotime", "internal/sync.runtime_SemacquireMutex", "sync/atomic.AddInt32", "(*internal/sync.Mutex).Unlock", "internal/race.ReleaseMerge", "(*internal/sync.Mutex).unlockSlow", "internal/sync.fatal", "internal/sync.runtime_Semrelease", "sync/atomic.StoreUint32"], unfollowed := true, recurses := true, apart := false, narrowed := true }
def ZoneBackUptoSaid : Prop := zoneBackUptoRow.holds Try.pinned (OpenSpec.upto zoneBackSpec)

/-- 'matinslaw05.ZoneDay', WHERE WHAT IT READS IS OF BULK AT MOST 1048576: true; the input reads as it did. -/
def zoneDayUptoRow : OpenClaim := { program := "ytjkaggmnieafjaa", sum := "a111cc4884504105715d14a79c413764d7b5941b59970b1af8d938a556c6f582", func := "matins/matinslaw05.ZoneDay", spec := "zoneDay", inPlace := ["sync/atomic.LoadUint32", "(*internal/sync.Mutex).Lock", "internal/race.Disable", "sync/atomic.CompareAndSwapInt32", "internal/race.Enable", "internal/race.Acquire", "(*internal/sync.Mutex).lockSlow", "internal/sync.runtime_canSpin", "internal/sync.runtime_doSpin", "internal/sync.throw", "internal/sync.runtime_nanotime", "internal/sync.runtime_SemacquireMutex", "sync/atomic.AddInt32", "(*internal/sync.Mutex).Unlock", "internal/race.ReleaseMerge", "(*internal/sync.Mutex).unlockSlow", "internal/sync.fatal", "internal/sync.runtime_Semrelease", "sync/atomic.StoreUint32"], unfollowed := true, recurses := true, apart := false, narrowed := true }
def ZoneDayUptoSaid : Prop := zoneDayUptoRow.holds Try.pinned (OpenSpec.upto zoneDaySpec)

end Rows
end Go.Proofs.Ytjkaggmnieafjaa
