/-
  NARROWER THAN 'FOR EVERY INPUT', by the rows' own cells (each row's printed sentence says how): TallyScripts: calm · TallySpread: calm · TallyTickets: calm · TallyApart: calm · TallyMost: calm.
  DERIVED. THE GIVEN ROWS OF THIS SEAT. 5 by the template 'for every input the law returns true; each argument reads behind the call as it read before'; 0 by the template 'total and deterministic' (their statements: YtboiolnnhmlieaaTotals.lean).
  GIVEN WITH THE SEED: the statements are not yours to turn. If you find one false, say at which input.
  Laid BY PROGRAM, IN A SANDBOX (cutbox-rows.mjs): the forced cells as the released guide's own fill.sh prints them over the translation 96a50b471f749285… (all of the seat's roots in one cut). By AI agents, Wed Nov 11 2026. No macro, syntax, notation, axiom, sorry.
-/
import Derived.Test.YtboiolnnhmlieaaChecked
import GoSem.Claim
import GoSem.ClaimJoined
import GoSem.ClaimMapViews
import Derived.JoinedTies
import Derived.KernelRfl
namespace Go.Proofs.Ytboiolnnhmlieaa
/- THE CELL 'sum', in the pinned program and in every row, IS THE sha256 OF THE DUMP (.gsa) THAT YtboiolnnhmlieaaProg.lean LOADS. Nothing in Lean hashes anything: it is a label: what it is worth is what the hold of that sum in a sandbox is worth. -/
noncomputable def Try.pinned : Pinned := { name := "ytboiolnnhmlieaa", sum := "96a50b471f749285e67f0e780ab2be0f1ec98d9679d22fe79459f75c3b5b7d7b", checked := Try.checked }
namespace Rows
def none {H : Type} : Left H := { results := [], args := [] }

/-- 'matinslaw01.TallyScripts': WHATEVER THE INPUT: true; the input reads as it did. -/
def tallyScriptsSpec : ChangeSpec := { name := "tallyScripts", fn := fun _ => fun
  | [d] => { results := [.lit (.bool true)], args := [d] }
  | _ => none }
def tallyScriptsRow : OpenClaim := { program := "ytboiolnnhmlieaa", sum := "96a50b471f749285e67f0e780ab2be0f1ec98d9679d22fe79459f75c3b5b7d7b", func := "matins/matinslaw01.TallyScripts", spec := "tallyScripts", inPlace := ["sync/atomic.AddInt64", "sync/atomic.LoadInt64", "sync/atomic.CompareAndSwapInt64", "(*sync.WaitGroup).Add", "internal/race.ReleaseMerge", "internal/race.Disable", "internal/race.Enable", "internal/synctest.IsInBubble", "internal/synctest.Associate[sync.WaitGroup]", "sync.fatal", "sync/atomic.OrUint64", "sync/atomic.AddUint64", "internal/race.Read", "sync/atomic.LoadUint64", "sync/atomic.StoreUint64", "internal/synctest.Disassociate[sync.WaitGroup]", "sync.runtime_Semrelease", "(*sync.WaitGroup).Done", "(*sync.WaitGroup).Wait", "internal/race.Acquire", "internal/synctest.IsAssociated[sync.WaitGroup]", "sync/atomic.CompareAndSwapUint64", "internal/race.Write", "sync.runtime_SemacquireWaitGroup", "sync/atomic.LoadUint32", "(*internal/sync.Mutex).Lock", "sync/atomic.CompareAndSwapInt32", "(*internal/sync.Mutex).lockSlow", "internal/sync.runtime_canSpin", "internal/sync.runtime_doSpin", "internal/sync.throw", "internal/sync.runtime_nanotime", "internal/sync.runtime_SemacquireMutex", "sync/atomic.AddInt32", "(*internal/sync.Mutex).Unlock", "(*internal/sync.Mutex).unlockSlow", "internal/sync.fatal", "internal/sync.runtime_Semrelease", "sync/atomic.StoreUint32"], unfollowed := true, recurses := true, leaving := true, apart := false, calm := true, outside := [.timePasses] }
def TallyScriptsSaid : Prop := tallyScriptsRow.holds Try.pinned (OpenSpec.ofChange tallyScriptsSpec)

/-- ITS FALSE NEIGHBOUR: 'it returns false'. Refute it at one input. -/
def tallyScriptsWrong : ChangeSpec := { name := "tallyScripts", fn := fun _ => fun
  | [d] => { results := [.lit (.bool false)], args := [d] }
  | _ => none }
def TallyScriptsWrongFalsely : Prop := tallyScriptsRow.holds Try.pinned (OpenSpec.ofChange tallyScriptsWrong)

/-- 'matinslaw01.TallySpread': WHATEVER THE INPUT: true; the input reads as it did. -/
def tallySpreadSpec : ChangeSpec := { name := "tallySpread", fn := fun _ => fun
  | [d1, d2] => { results := [.lit (.bool true)], args := [d1, d2] }
  | _ => none }
def tallySpreadRow : OpenClaim := { program := "ytboiolnnhmlieaa", sum := "96a50b471f749285e67f0e780ab2be0f1ec98d9679d22fe79459f75c3b5b7d7b", func := "matins/matinslaw01.TallySpread", spec := "tallySpread", inPlace := ["sync/atomic.AddInt64", "sync/atomic.LoadInt64", "sync/atomic.CompareAndSwapInt64", "(*sync.WaitGroup).Add", "internal/race.ReleaseMerge", "internal/race.Disable", "internal/race.Enable", "internal/synctest.IsInBubble", "internal/synctest.Associate[sync.WaitGroup]", "sync.fatal", "sync/atomic.OrUint64", "sync/atomic.AddUint64", "internal/race.Read", "sync/atomic.LoadUint64", "sync/atomic.StoreUint64", "internal/synctest.Disassociate[sync.WaitGroup]", "sync.runtime_Semrelease", "(*sync.WaitGroup).Done", "(*sync.WaitGroup).Wait", "internal/race.Acquire", "internal/synctest.IsAssociated[sync.WaitGroup]", "sync/atomic.CompareAndSwapUint64", "internal/race.Write", "sync.runtime_SemacquireWaitGroup", "sync/atomic.LoadUint32", "(*internal/sync.Mutex).Lock", "sync/atomic.CompareAndSwapInt32", "(*internal/sync.Mutex).lockSlow", "internal/sync.runtime_canSpin", "internal/sync.runtime_doSpin", "internal/sync.throw", "internal/sync.runtime_nanotime", "internal/sync.runtime_SemacquireMutex", "sync/atomic.AddInt32", "(*internal/sync.Mutex).Unlock", "(*internal/sync.Mutex).unlockSlow", "internal/sync.fatal", "internal/sync.runtime_Semrelease", "sync/atomic.StoreUint32"], unfollowed := true, recurses := true, leaving := true, apart := false, calm := true, outside := [.timePasses] }
def TallySpreadSaid : Prop := tallySpreadRow.holds Try.pinned (OpenSpec.ofChange tallySpreadSpec)

/-- ITS FALSE NEIGHBOUR: 'it returns false'. Refute it at one input. -/
def tallySpreadWrong : ChangeSpec := { name := "tallySpread", fn := fun _ => fun
  | [d1, d2] => { results := [.lit (.bool false)], args := [d1, d2] }
  | _ => none }
def TallySpreadWrongFalsely : Prop := tallySpreadRow.holds Try.pinned (OpenSpec.ofChange tallySpreadWrong)

/-- 'matinslaw01.TallyTickets': WHATEVER THE INPUT: true; the input reads as it did. -/
def tallyTicketsSpec : ChangeSpec := { name := "tallyTickets", fn := fun _ => fun
  | [d] => { results := [.lit (.bool true)], args := [d] }
  | _ => none }
def tallyTicketsRow : OpenClaim := { program := "ytboiolnnhmlieaa", sum := "96a50b471f749285e67f0e780ab2be0f1ec98d9679d22fe79459f75c3b5b7d7b", func := "matins/matinslaw01.TallyTickets", spec := "tallyTickets", inPlace := ["sync/atomic.AddInt64", "sync/atomic.LoadInt64", "sync/atomic.CompareAndSwapInt64", "(*sync.WaitGroup).Add", "internal/race.ReleaseMerge", "internal/race.Disable", "internal/race.Enable", "internal/synctest.IsInBubble", "internal/synctest.Associate[sync.WaitGroup]", "sync.fatal", "sync/atomic.OrUint64", "sync/atomic.AddUint64", "internal/race.Read", "sync/atomic.LoadUint64", "sync/atomic.StoreUint64", "internal/synctest.Disassociate[sync.WaitGroup]", "sync.runtime_Semrelease", "(*sync.WaitGroup).Done", "(*sync.WaitGroup).Wait", "internal/race.Acquire", "internal/synctest.IsAssociated[sync.WaitGroup]", "sync/atomic.CompareAndSwapUint64", "internal/race.Write", "sync.runtime_SemacquireWaitGroup", "sync/atomic.LoadUint32", "(*internal/sync.Mutex).Lock", "sync/atomic.CompareAndSwapInt32", "(*internal/sync.Mutex).lockSlow", "internal/sync.runtime_canSpin", "internal/sync.runtime_doSpin", "internal/sync.throw", "internal/sync.runtime_nanotime", "internal/sync.runtime_SemacquireMutex", "sync/atomic.AddInt32", "(*internal/sync.Mutex).Unlock", "(*internal/sync.Mutex).unlockSlow", "internal/sync.fatal", "internal/sync.runtime_Semrelease", "sync/atomic.StoreUint32"], unfollowed := true, recurses := true, leaving := true, apart := false, calm := true, outside := [.timePasses] }
def TallyTicketsSaid : Prop := tallyTicketsRow.holds Try.pinned (OpenSpec.ofChange tallyTicketsSpec)

/-- ITS FALSE NEIGHBOUR: 'it returns false'. Refute it at one input. -/
def tallyTicketsWrong : ChangeSpec := { name := "tallyTickets", fn := fun _ => fun
  | [d] => { results := [.lit (.bool false)], args := [d] }
  | _ => none }
def TallyTicketsWrongFalsely : Prop := tallyTicketsRow.holds Try.pinned (OpenSpec.ofChange tallyTicketsWrong)

/-- 'matinslaw01.TallyApart': WHATEVER THE INPUT: true; the input reads as it did. -/
def tallyApartSpec : ChangeSpec := { name := "tallyApart", fn := fun _ => fun
  | [d1, d2, d3] => { results := [.lit (.bool true)], args := [d1, d2, d3] }
  | _ => none }
def tallyApartRow : OpenClaim := { program := "ytboiolnnhmlieaa", sum := "96a50b471f749285e67f0e780ab2be0f1ec98d9679d22fe79459f75c3b5b7d7b", func := "matins/matinslaw01.TallyApart", spec := "tallyApart", inPlace := ["sync/atomic.AddInt64", "sync/atomic.LoadInt64", "sync/atomic.CompareAndSwapInt64", "(*sync.WaitGroup).Add", "internal/race.ReleaseMerge", "internal/race.Disable", "internal/race.Enable", "internal/synctest.IsInBubble", "internal/synctest.Associate[sync.WaitGroup]", "sync.fatal", "sync/atomic.OrUint64", "sync/atomic.AddUint64", "internal/race.Read", "sync/atomic.LoadUint64", "sync/atomic.StoreUint64", "internal/synctest.Disassociate[sync.WaitGroup]", "sync.runtime_Semrelease", "(*sync.WaitGroup).Done", "(*sync.WaitGroup).Wait", "internal/race.Acquire", "internal/synctest.IsAssociated[sync.WaitGroup]", "sync/atomic.CompareAndSwapUint64", "internal/race.Write", "sync.runtime_SemacquireWaitGroup", "sync/atomic.LoadUint32", "(*internal/sync.Mutex).Lock", "sync/atomic.CompareAndSwapInt32", "(*internal/sync.Mutex).lockSlow", "internal/sync.runtime_canSpin", "internal/sync.runtime_doSpin", "internal/sync.throw", "internal/sync.runtime_nanotime", "internal/sync.runtime_SemacquireMutex", "sync/atomic.AddInt32", "(*internal/sync.Mutex).Unlock", "(*internal/sync.Mutex).unlockSlow", "internal/sync.fatal", "internal/sync.runtime_Semrelease", "sync/atomic.StoreUint32"], unfollowed := true, recurses := true, leaving := true, apart := false, calm := true, outside := [.timePasses] }
def TallyApartSaid : Prop := tallyApartRow.holds Try.pinned (OpenSpec.ofChange tallyApartSpec)

/-- ITS FALSE NEIGHBOUR: 'it returns false'. Refute it at one input. -/
def tallyApartWrong : ChangeSpec := { name := "tallyApart", fn := fun _ => fun
  | [d1, d2, d3] => { results := [.lit (.bool false)], args := [d1, d2, d3] }
  | _ => none }
def TallyApartWrongFalsely : Prop := tallyApartRow.holds Try.pinned (OpenSpec.ofChange tallyApartWrong)

/-- 'matinslaw01.TallyMost': WHATEVER THE INPUT: true; the input reads as it did. -/
def tallyMostSpec : ChangeSpec := { name := "tallyMost", fn := fun _ => fun
  | [d1, d2] => { results := [.lit (.bool true)], args := [d1, d2] }
  | _ => none }
def tallyMostRow : OpenClaim := { program := "ytboiolnnhmlieaa", sum := "96a50b471f749285e67f0e780ab2be0f1ec98d9679d22fe79459f75c3b5b7d7b", func := "matins/matinslaw01.TallyMost", spec := "tallyMost", inPlace := ["sync/atomic.AddInt64", "sync/atomic.LoadInt64", "sync/atomic.CompareAndSwapInt64", "(*sync.WaitGroup).Add", "internal/race.ReleaseMerge", "internal/race.Disable", "internal/race.Enable", "internal/synctest.IsInBubble", "internal/synctest.Associate[sync.WaitGroup]", "sync.fatal", "sync/atomic.OrUint64", "sync/atomic.AddUint64", "internal/race.Read", "sync/atomic.LoadUint64", "sync/atomic.StoreUint64", "internal/synctest.Disassociate[sync.WaitGroup]", "sync.runtime_Semrelease", "(*sync.WaitGroup).Done", "(*sync.WaitGroup).Wait", "internal/race.Acquire", "internal/synctest.IsAssociated[sync.WaitGroup]", "sync/atomic.CompareAndSwapUint64", "internal/race.Write", "sync.runtime_SemacquireWaitGroup", "sync/atomic.LoadUint32", "(*internal/sync.Mutex).Lock", "sync/atomic.CompareAndSwapInt32", "(*internal/sync.Mutex).lockSlow", "internal/sync.runtime_canSpin", "internal/sync.runtime_doSpin", "internal/sync.throw", "internal/sync.runtime_nanotime", "internal/sync.runtime_SemacquireMutex", "sync/atomic.AddInt32", "(*internal/sync.Mutex).Unlock", "(*internal/sync.Mutex).unlockSlow", "internal/sync.fatal", "internal/sync.runtime_Semrelease", "sync/atomic.StoreUint32"], unfollowed := true, recurses := true, leaving := true, apart := false, calm := true, outside := [.timePasses] }
def TallyMostSaid : Prop := tallyMostRow.holds Try.pinned (OpenSpec.ofChange tallyMostSpec)

/-- ITS FALSE NEIGHBOUR: 'it returns false'. Refute it at one input. -/
def tallyMostWrong : ChangeSpec := { name := "tallyMost", fn := fun _ => fun
  | [d1, d2] => { results := [.lit (.bool false)], args := [d1, d2] }
  | _ => none }
def TallyMostWrongFalsely : Prop := tallyMostRow.holds Try.pinned (OpenSpec.ofChange tallyMostWrong)

/- THE SECOND FORM. 'bulk': how many values and letters a reading holds, each counted each time it is reached (what is shared counts as often as it is met; a slice's spare places count too). A statement '..UptoSaid' is the law's where the arguments, and the package variables that the reading takes, are together of bulk at most 1048576: NARROWER than '..Said'. Prove '..Said' where nothing that the law and all that it calls make is longer than what came in: it says more and counts as full. Else prove '..UptoSaid'. A law counts once. -/
mutual
def uptoBulk {H : Type} : DataW H → Nat
  | .lit (.string bytes) => bytes.length + 1
  | .lit _ => 1
  | .nil => 1
  | .ptr d => uptoBulk d + 1
  | .slice elems spare => uptoBulkAll elems + uptoBulkAll spare + 1
  | .agg parts => uptoBulkAll parts + 1
  | .iface _ d => uptoBulk d + 1
  | .map entries => uptoBulkEntries entries + 1
  | .held _ => 1
def uptoBulkAll {H : Type} : List (DataW H) → Nat
  | [] => 0
  | d :: r => uptoBulk d + uptoBulkAll r
def uptoBulkEntries {H : Type} : List (Lit × DataW H) → Nat
  | [] => 0
  | x :: r => uptoBulkEntry x + uptoBulkEntries r
def uptoBulkEntry {H : Type} : Lit × DataW H → Nat
  | (.string bytes, d) => bytes.length + uptoBulk d + 1
  | (_, d) => uptoBulk d + 1
 end
def uptoSmall : (H : Type) → List (DataW H) → Bool := fun _ ds => decide (uptoBulkAll ds ≤ 1048576)
def OpenSpec.upto (s : _root_.Go.ChangeSpec) : _root_.Go.OpenSpec := { _root_.Go.OpenSpec.ofChange s with cond := some uptoSmall }

/-- 'matinslaw01.TallyScripts', WHERE WHAT IT READS IS OF BULK AT MOST 1048576: true; the input reads as it did. -/
def tallyScriptsUptoRow : OpenClaim := { program := "ytboiolnnhmlieaa", sum := "96a50b471f749285e67f0e780ab2be0f1ec98d9679d22fe79459f75c3b5b7d7b", func := "matins/matinslaw01.TallyScripts", spec := "tallyScripts", inPlace := ["sync/atomic.AddInt64", "sync/atomic.LoadInt64", "sync/atomic.CompareAndSwapInt64", "(*sync.WaitGroup).Add", "internal/race.ReleaseMerge", "internal/race.Disable", "internal/race.Enable", "internal/synctest.IsInBubble", "internal/synctest.Associate[sync.WaitGroup]", "sync.fatal", "sync/atomic.OrUint64", "sync/atomic.AddUint64", "internal/race.Read", "sync/atomic.LoadUint64", "sync/atomic.StoreUint64", "internal/synctest.Disassociate[sync.WaitGroup]", "sync.runtime_Semrelease", "(*sync.WaitGroup).Done", "(*sync.WaitGroup).Wait", "internal/race.Acquire", "internal/synctest.IsAssociated[sync.WaitGroup]", "sync/atomic.CompareAndSwapUint64", "internal/race.Write", "sync.runtime_SemacquireWaitGroup", "sync/atomic.LoadUint32", "(*internal/sync.Mutex).Lock", "sync/atomic.CompareAndSwapInt32", "(*internal/sync.Mutex).lockSlow", "internal/sync.runtime_canSpin", "internal/sync.runtime_doSpin", "internal/sync.throw", "internal/sync.runtime_nanotime", "internal/sync.runtime_SemacquireMutex", "sync/atomic.AddInt32", "(*internal/sync.Mutex).Unlock", "(*internal/sync.Mutex).unlockSlow", "internal/sync.fatal", "internal/sync.runtime_Semrelease", "sync/atomic.StoreUint32"], unfollowed := true, recurses := true, leaving := true, apart := false, calm := true, outside := [.timePasses], narrowed := true }
def TallyScriptsUptoSaid : Prop := tallyScriptsUptoRow.holds Try.pinned (OpenSpec.upto tallyScriptsSpec)

/-- 'matinslaw01.TallySpread', WHERE WHAT IT READS IS OF BULK AT MOST 1048576: true; the input reads as it did. -/
def tallySpreadUptoRow : OpenClaim := { program := "ytboiolnnhmlieaa", sum := "96a50b471f749285e67f0e780ab2be0f1ec98d9679d22fe79459f75c3b5b7d7b", func := "matins/matinslaw01.TallySpread", spec := "tallySpread", inPlace := ["sync/atomic.AddInt64", "sync/atomic.LoadInt64", "sync/atomic.CompareAndSwapInt64", "(*sync.WaitGroup).Add", "internal/race.ReleaseMerge", "internal/race.Disable", "internal/race.Enable", "internal/synctest.IsInBubble", "internal/synctest.Associate[sync.WaitGroup]", "sync.fatal", "sync/atomic.OrUint64", "sync/atomic.AddUint64", "internal/race.Read", "sync/atomic.LoadUint64", "sync/atomic.StoreUint64", "internal/synctest.Disassociate[sync.WaitGroup]", "sync.runtime_Semrelease", "(*sync.WaitGroup).Done", "(*sync.WaitGroup).Wait", "internal/race.Acquire", "internal/synctest.IsAssociated[sync.WaitGroup]", "sync/atomic.CompareAndSwapUint64", "internal/race.Write", "sync.runtime_SemacquireWaitGroup", "sync/atomic.LoadUint32", "(*internal/sync.Mutex).Lock", "sync/atomic.CompareAndSwapInt32", "(*internal/sync.Mutex).lockSlow", "internal/sync.runtime_canSpin", "internal/sync.runtime_doSpin", "internal/sync.throw", "internal/sync.runtime_nanotime", "internal/sync.runtime_SemacquireMutex", "sync/atomic.AddInt32", "(*internal/sync.Mutex).Unlock", "(*internal/sync.Mutex).unlockSlow", "internal/sync.fatal", "internal/sync.runtime_Semrelease", "sync/atomic.StoreUint32"], unfollowed := true, recurses := true, leaving := true, apart := false, calm := true, outside := [.timePasses], narrowed := true }
def TallySpreadUptoSaid : Prop := tallySpreadUptoRow.holds Try.pinned (OpenSpec.upto tallySpreadSpec)

/-- 'matinslaw01.TallyTickets', WHERE WHAT IT READS IS OF BULK AT MOST 1048576: true; the input reads as it did. -/
def tallyTicketsUptoRow : OpenClaim := { program := "ytboiolnnhmlieaa", sum := "96a50b471f749285e67f0e780ab2be0f1ec98d9679d22fe79459f75c3b5b7d7b", func := "matins/matinslaw01.TallyTickets", spec := "tallyTickets", inPlace := ["sync/atomic.AddInt64", "sync/atomic.LoadInt64", "sync/atomic.CompareAndSwapInt64", "(*sync.WaitGroup).Add", "internal/race.ReleaseMerge", "internal/race.Disable", "internal/race.Enable", "internal/synctest.IsInBubble", "internal/synctest.Associate[sync.WaitGroup]", "sync.fatal", "sync/atomic.OrUint64", "sync/atomic.AddUint64", "internal/race.Read", "sync/atomic.LoadUint64", "sync/atomic.StoreUint64", "internal/synctest.Disassociate[sync.WaitGroup]", "sync.runtime_Semrelease", "(*sync.WaitGroup).Done", "(*sync.WaitGroup).Wait", "internal/race.Acquire", "internal/synctest.IsAssociated[sync.WaitGroup]", "sync/atomic.CompareAndSwapUint64", "internal/race.Write", "sync.runtime_SemacquireWaitGroup", "sync/atomic.LoadUint32", "(*internal/sync.Mutex).Lock", "sync/atomic.CompareAndSwapInt32", "(*internal/sync.Mutex).lockSlow", "internal/sync.runtime_canSpin", "internal/sync.runtime_doSpin", "internal/sync.throw", "internal/sync.runtime_nanotime", "internal/sync.runtime_SemacquireMutex", "sync/atomic.AddInt32", "(*internal/sync.Mutex).Unlock", "(*internal/sync.Mutex).unlockSlow", "internal/sync.fatal", "internal/sync.runtime_Semrelease", "sync/atomic.StoreUint32"], unfollowed := true, recurses := true, leaving := true, apart := false, calm := true, outside := [.timePasses], narrowed := true }
def TallyTicketsUptoSaid : Prop := tallyTicketsUptoRow.holds Try.pinned (OpenSpec.upto tallyTicketsSpec)

/-- 'matinslaw01.TallyApart', WHERE WHAT IT READS IS OF BULK AT MOST 1048576: true; the input reads as it did. -/
def tallyApartUptoRow : OpenClaim := { program := "ytboiolnnhmlieaa", sum := "96a50b471f749285e67f0e780ab2be0f1ec98d9679d22fe79459f75c3b5b7d7b", func := "matins/matinslaw01.TallyApart", spec := "tallyApart", inPlace := ["sync/atomic.AddInt64", "sync/atomic.LoadInt64", "sync/atomic.CompareAndSwapInt64", "(*sync.WaitGroup).Add", "internal/race.ReleaseMerge", "internal/race.Disable", "internal/race.Enable", "internal/synctest.IsInBubble", "internal/synctest.Associate[sync.WaitGroup]", "sync.fatal", "sync/atomic.OrUint64", "sync/atomic.AddUint64", "internal/race.Read", "sync/atomic.LoadUint64", "sync/atomic.StoreUint64", "internal/synctest.Disassociate[sync.WaitGroup]", "sync.runtime_Semrelease", "(*sync.WaitGroup).Done", "(*sync.WaitGroup).Wait", "internal/race.Acquire", "internal/synctest.IsAssociated[sync.WaitGroup]", "sync/atomic.CompareAndSwapUint64", "internal/race.Write", "sync.runtime_SemacquireWaitGroup", "sync/atomic.LoadUint32", "(*internal/sync.Mutex).Lock", "sync/atomic.CompareAndSwapInt32", "(*internal/sync.Mutex).lockSlow", "internal/sync.runtime_canSpin", "internal/sync.runtime_doSpin", "internal/sync.throw", "internal/sync.runtime_nanotime", "internal/sync.runtime_SemacquireMutex", "sync/atomic.AddInt32", "(*internal/sync.Mutex).Unlock", "(*internal/sync.Mutex).unlockSlow", "internal/sync.fatal", "internal/sync.runtime_Semrelease", "sync/atomic.StoreUint32"], unfollowed := true, recurses := true, leaving := true, apart := false, calm := true, outside := [.timePasses], narrowed := true }
def TallyApartUptoSaid : Prop := tallyApartUptoRow.holds Try.pinned (OpenSpec.upto tallyApartSpec)

/-- 'matinslaw01.TallyMost', WHERE WHAT IT READS IS OF BULK AT MOST 1048576: true; the input reads as it did. -/
def tallyMostUptoRow : OpenClaim := { program := "ytboiolnnhmlieaa", sum := "96a50b471f749285e67f0e780ab2be0f1ec98d9679d22fe79459f75c3b5b7d7b", func := "matins/matinslaw01.TallyMost", spec := "tallyMost", inPlace := ["sync/atomic.AddInt64", "sync/atomic.LoadInt64", "sync/atomic.CompareAndSwapInt64", "(*sync.WaitGroup).Add", "internal/race.ReleaseMerge", "internal/race.Disable", "internal/race.Enable", "internal/synctest.IsInBubble", "internal/synctest.Associate[sync.WaitGroup]", "sync.fatal", "sync/atomic.OrUint64", "sync/atomic.AddUint64", "internal/race.Read", "sync/atomic.LoadUint64", "sync/atomic.StoreUint64", "internal/synctest.Disassociate[sync.WaitGroup]", "sync.runtime_Semrelease", "(*sync.WaitGroup).Done", "(*sync.WaitGroup).Wait", "internal/race.Acquire", "internal/synctest.IsAssociated[sync.WaitGroup]", "sync/atomic.CompareAndSwapUint64", "internal/race.Write", "sync.runtime_SemacquireWaitGroup", "sync/atomic.LoadUint32", "(*internal/sync.Mutex).Lock", "sync/atomic.CompareAndSwapInt32", "(*internal/sync.Mutex).lockSlow", "internal/sync.runtime_canSpin", "internal/sync.runtime_doSpin", "internal/sync.throw", "internal/sync.runtime_nanotime", "internal/sync.runtime_SemacquireMutex", "sync/atomic.AddInt32", "(*internal/sync.Mutex).Unlock", "(*internal/sync.Mutex).unlockSlow", "internal/sync.fatal", "internal/sync.runtime_Semrelease", "sync/atomic.StoreUint32"], unfollowed := true, recurses := true, leaving := true, apart := false, calm := true, outside := [.timePasses], narrowed := true }
def TallyMostUptoSaid : Prop := tallyMostUptoRow.holds Try.pinned (OpenSpec.upto tallyMostSpec)

end Rows
end Go.Proofs.Ytboiolnnhmlieaa
