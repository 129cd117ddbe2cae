/-
  No cell of these rows narrows 'for every input' (looked for: loops, veiled, ifaces, maps, wideKeys, modest, calm, conditions, laid).
  DERIVED. THE GIVEN ROWS OF THIS SEAT. 14 by the template 'for every input the law returns true; each argument reads behind the call as it read before'; 0 by the template 'total and deterministic' (their statements: YtdladjgdhnkkcaaTotals.lean).
  GIVEN WITH THE SEED: the statements are not yours to turn. If you find one false, say at which input.
  Laid BY PROGRAM, IN A SANDBOX (cutbox-rows.mjs): the forced cells as the released guide's own fill.sh prints them over the translation 6eee714d18177bd9… (all of the seat's roots in one cut). By AI agents, Wed Nov 11 2026. No macro, syntax, notation, axiom, sorry.
-/
import Derived.Test.YtdladjgdhnkkcaaChecked
import GoSem.Claim
import GoSem.ClaimJoined
import GoSem.ClaimMapViews
import Derived.JoinedTies
import Derived.KernelRfl
namespace Go.Proofs.Ytdladjgdhnkkcaa
/- THE CELL 'sum', in the pinned program and in every row, IS THE sha256 OF THE DUMP (.gsa) THAT YtdladjgdhnkkcaaProg.lean LOADS. Nothing in Lean hashes anything: it is a label: what it is worth is what the hold of that sum in a sandbox is worth. -/
noncomputable def Try.pinned : Pinned := { name := "ytdladjgdhnkkcaa", sum := "6eee714d18177bd9f80a2230c8b64486b4df73994ebcce7b06ba7a108baa586c", checked := Try.checked }
namespace Rows
def none {H : Type} : Left H := { results := [], args := [] }

/-- 'matinslaw13.TrailMatches': WHATEVER THE INPUT: true; the input reads as it did. -/
def trailMatchesSpec : ChangeSpec := { name := "trailMatches", fn := fun _ => fun
  | [d1, d2, d3, d4, d5] => { results := [.lit (.bool true)], args := [d1, d2, d3, d4, d5] }
  | _ => none }
def trailMatchesRow : OpenClaim := { program := "ytdladjgdhnkkcaa", sum := "6eee714d18177bd9f80a2230c8b64486b4df73994ebcce7b06ba7a108baa586c", func := "matins/matinslaw13.TrailMatches", spec := "trailMatches", apart := false }
def TrailMatchesSaid : Prop := trailMatchesRow.holds Try.pinned (OpenSpec.ofChange trailMatchesSpec)

/-- ITS FALSE NEIGHBOUR: 'it returns false'. Refute it at one input. -/
def trailMatchesWrong : ChangeSpec := { name := "trailMatches", fn := fun _ => fun
  | [d1, d2, d3, d4, d5] => { results := [.lit (.bool false)], args := [d1, d2, d3, d4, d5] }
  | _ => none }
def TrailMatchesWrongFalsely : Prop := trailMatchesRow.holds Try.pinned (OpenSpec.ofChange trailMatchesWrong)

/-- 'matinslaw13.TrailParts': WHATEVER THE INPUT: true; the input reads as it did. -/
def trailPartsSpec : ChangeSpec := { name := "trailParts", fn := fun _ => fun
  | [d1, d2, d3, d4, d5, d6] => { results := [.lit (.bool true)], args := [d1, d2, d3, d4, d5, d6] }
  | _ => none }
def trailPartsRow : OpenClaim := { program := "ytdladjgdhnkkcaa", sum := "6eee714d18177bd9f80a2230c8b64486b4df73994ebcce7b06ba7a108baa586c", func := "matins/matinslaw13.TrailParts", spec := "trailParts", apart := false }
def TrailPartsSaid : Prop := trailPartsRow.holds Try.pinned (OpenSpec.ofChange trailPartsSpec)

/-- ITS FALSE NEIGHBOUR: 'it returns false'. Refute it at one input. -/
def trailPartsWrong : ChangeSpec := { name := "trailParts", fn := fun _ => fun
  | [d1, d2, d3, d4, d5, d6] => { results := [.lit (.bool false)], args := [d1, d2, d3, d4, d5, d6] }
  | _ => none }
def TrailPartsWrongFalsely : Prop := trailPartsRow.holds Try.pinned (OpenSpec.ofChange trailPartsWrong)

/-- 'matinslaw13.TrailNewer': WHATEVER THE INPUT: true; the input reads as it did. -/
def trailNewerSpec : ChangeSpec := { name := "trailNewer", fn := fun _ => fun
  | [d1, d2] => { results := [.lit (.bool true)], args := [d1, d2] }
  | _ => none }
def trailNewerRow : OpenClaim := { program := "ytdladjgdhnkkcaa", sum := "6eee714d18177bd9f80a2230c8b64486b4df73994ebcce7b06ba7a108baa586c", func := "matins/matinslaw13.TrailNewer", spec := "trailNewer", apart := false }
def TrailNewerSaid : Prop := trailNewerRow.holds Try.pinned (OpenSpec.ofChange trailNewerSpec)

/-- ITS FALSE NEIGHBOUR: 'it returns false'. Refute it at one input. -/
def trailNewerWrong : ChangeSpec := { name := "trailNewer", fn := fun _ => fun
  | [d1, d2] => { results := [.lit (.bool false)], args := [d1, d2] }
  | _ => none }
def TrailNewerWrongFalsely : Prop := trailNewerRow.holds Try.pinned (OpenSpec.ofChange trailNewerWrong)

/-- 'matinslaw13.TrailPuts': WHATEVER THE INPUT: true; the input reads as it did. -/
def trailPutsSpec : ChangeSpec := { name := "trailPuts", fn := fun _ => fun
  | [d1, d2, d3, d4, d5] => { results := [.lit (.bool true)], args := [d1, d2, d3, d4, d5] }
  | _ => none }
def trailPutsRow : OpenClaim := { program := "ytdladjgdhnkkcaa", sum := "6eee714d18177bd9f80a2230c8b64486b4df73994ebcce7b06ba7a108baa586c", func := "matins/matinslaw13.TrailPuts", spec := "trailPuts", apart := false }
def TrailPutsSaid : Prop := trailPutsRow.holds Try.pinned (OpenSpec.ofChange trailPutsSpec)

/-- ITS FALSE NEIGHBOUR: 'it returns false'. Refute it at one input. -/
def trailPutsWrong : ChangeSpec := { name := "trailPuts", fn := fun _ => fun
  | [d1, d2, d3, d4, d5] => { results := [.lit (.bool false)], args := [d1, d2, d3, d4, d5] }
  | _ => none }
def TrailPutsWrongFalsely : Prop := trailPutsRow.holds Try.pinned (OpenSpec.ofChange trailPutsWrong)

/-- 'matinslaw13.TrailTells': WHATEVER THE INPUT: true; the input reads as it did. -/
def trailTellsSpec : ChangeSpec := { name := "trailTells", fn := fun _ => fun
  | [d1, d2, d3, d4] => { results := [.lit (.bool true)], args := [d1, d2, d3, d4] }
  | _ => none }
def trailTellsRow : OpenClaim := { program := "ytdladjgdhnkkcaa", sum := "6eee714d18177bd9f80a2230c8b64486b4df73994ebcce7b06ba7a108baa586c", func := "matins/matinslaw13.TrailTells", spec := "trailTells", apart := false }
def TrailTellsSaid : Prop := trailTellsRow.holds Try.pinned (OpenSpec.ofChange trailTellsSpec)

/-- ITS FALSE NEIGHBOUR: 'it returns false'. Refute it at one input. -/
def trailTellsWrong : ChangeSpec := { name := "trailTells", fn := fun _ => fun
  | [d1, d2, d3, d4] => { results := [.lit (.bool false)], args := [d1, d2, d3, d4] }
  | _ => none }
def TrailTellsWrongFalsely : Prop := trailTellsRow.holds Try.pinned (OpenSpec.ofChange trailTellsWrong)

/-- 'matinslaw14.RaftStays': WHATEVER THE INPUT: true; the input reads as it did. -/
def raftStaysSpec : ChangeSpec := { name := "raftStays", fn := fun _ => fun
  | [d1, d2] => { results := [.lit (.bool true)], args := [d1, d2] }
  | _ => none }
def raftStaysRow : OpenClaim := { program := "ytdladjgdhnkkcaa", sum := "6eee714d18177bd9f80a2230c8b64486b4df73994ebcce7b06ba7a108baa586c", func := "matins/matinslaw14.RaftStays", spec := "raftStays", unfollowed := true, recurses := true, apart := false }
def RaftStaysSaid : Prop := raftStaysRow.holds Try.pinned (OpenSpec.ofChange raftStaysSpec)

/-- ITS FALSE NEIGHBOUR: 'it returns false'. Refute it at one input. -/
def raftStaysWrong : ChangeSpec := { name := "raftStays", fn := fun _ => fun
  | [d1, d2] => { results := [.lit (.bool false)], args := [d1, d2] }
  | _ => none }
def RaftStaysWrongFalsely : Prop := raftStaysRow.holds Try.pinned (OpenSpec.ofChange raftStaysWrong)

/-- 'matinslaw12.QuorumReached': WHATEVER THE INPUT: true; the input reads as it did. -/
def quorumReachedSpec : ChangeSpec := { name := "quorumReached", fn := fun _ => fun
  | [d1, d2, d3, d4] => { results := [.lit (.bool true)], args := [d1, d2, d3, d4] }
  | _ => none }
def quorumReachedRow : OpenClaim := { program := "ytdladjgdhnkkcaa", sum := "6eee714d18177bd9f80a2230c8b64486b4df73994ebcce7b06ba7a108baa586c", func := "matins/matinslaw12.QuorumReached", spec := "quorumReached", unfollowed := true, recurses := true, apart := false }
def QuorumReachedSaid : Prop := quorumReachedRow.holds Try.pinned (OpenSpec.ofChange quorumReachedSpec)

/-- ITS FALSE NEIGHBOUR: 'it returns false'. Refute it at one input. -/
def quorumReachedWrong : ChangeSpec := { name := "quorumReached", fn := fun _ => fun
  | [d1, d2, d3, d4] => { results := [.lit (.bool false)], args := [d1, d2, d3, d4] }
  | _ => none }
def QuorumReachedWrongFalsely : Prop := quorumReachedRow.holds Try.pinned (OpenSpec.ofChange quorumReachedWrong)

/-- 'matinslaw12.QuorumMeets': WHATEVER THE INPUT: true; the input reads as it did. -/
def quorumMeetsSpec : ChangeSpec := { name := "quorumMeets", fn := fun _ => fun
  | [d1, d2, d3, d4, d5] => { results := [.lit (.bool true)], args := [d1, d2, d3, d4, d5] }
  | _ => none }
def quorumMeetsRow : OpenClaim := { program := "ytdladjgdhnkkcaa", sum := "6eee714d18177bd9f80a2230c8b64486b4df73994ebcce7b06ba7a108baa586c", func := "matins/matinslaw12.QuorumMeets", spec := "quorumMeets", unfollowed := true, recurses := true, apart := false }
def QuorumMeetsSaid : Prop := quorumMeetsRow.holds Try.pinned (OpenSpec.ofChange quorumMeetsSpec)

/-- ITS FALSE NEIGHBOUR: 'it returns false'. Refute it at one input. -/
def quorumMeetsWrong : ChangeSpec := { name := "quorumMeets", fn := fun _ => fun
  | [d1, d2, d3, d4, d5] => { results := [.lit (.bool false)], args := [d1, d2, d3, d4, d5] }
  | _ => none }
def QuorumMeetsWrongFalsely : Prop := quorumMeetsRow.holds Try.pinned (OpenSpec.ofChange quorumMeetsWrong)

/-- 'matinslaw12.QuorumMedian': WHATEVER THE INPUT: true; the input reads as it did. -/
def quorumMedianSpec : ChangeSpec := { name := "quorumMedian", fn := fun _ => fun
  | [d1, d2] => { results := [.lit (.bool true)], args := [d1, d2] }
  | _ => none }
def quorumMedianRow : OpenClaim := { program := "ytdladjgdhnkkcaa", sum := "6eee714d18177bd9f80a2230c8b64486b4df73994ebcce7b06ba7a108baa586c", func := "matins/matinslaw12.QuorumMedian", spec := "quorumMedian", unfollowed := true, recurses := true, apart := false }
def QuorumMedianSaid : Prop := quorumMedianRow.holds Try.pinned (OpenSpec.ofChange quorumMedianSpec)

/-- ITS FALSE NEIGHBOUR: 'it returns false'. Refute it at one input. -/
def quorumMedianWrong : ChangeSpec := { name := "quorumMedian", fn := fun _ => fun
  | [d1, d2] => { results := [.lit (.bool false)], args := [d1, d2] }
  | _ => none }
def QuorumMedianWrongFalsely : Prop := quorumMedianRow.holds Try.pinned (OpenSpec.ofChange quorumMedianWrong)

/-- 'matinslaw12.QuorumGrows': WHATEVER THE INPUT: true; the input reads as it did. -/
def quorumGrowsSpec : ChangeSpec := { name := "quorumGrows", fn := fun _ => fun
  | [d1, d2, d3] => { results := [.lit (.bool true)], args := [d1, d2, d3] }
  | _ => none }
def quorumGrowsRow : OpenClaim := { program := "ytdladjgdhnkkcaa", sum := "6eee714d18177bd9f80a2230c8b64486b4df73994ebcce7b06ba7a108baa586c", func := "matins/matinslaw12.QuorumGrows", spec := "quorumGrows", unfollowed := true, recurses := true, apart := false }
def QuorumGrowsSaid : Prop := quorumGrowsRow.holds Try.pinned (OpenSpec.ofChange quorumGrowsSpec)

/-- ITS FALSE NEIGHBOUR: 'it returns false'. Refute it at one input. -/
def quorumGrowsWrong : ChangeSpec := { name := "quorumGrows", fn := fun _ => fun
  | [d1, d2, d3] => { results := [.lit (.bool false)], args := [d1, d2, d3] }
  | _ => none }
def QuorumGrowsWrongFalsely : Prop := quorumGrowsRow.holds Try.pinned (OpenSpec.ofChange quorumGrowsWrong)

/-- 'matinslaw12.QuorumBack': WHATEVER THE INPUT: true; the input reads as it did. -/
def quorumBackSpec : ChangeSpec := { name := "quorumBack", fn := fun _ => fun
  | [d1, d2] => { results := [.lit (.bool true)], args := [d1, d2] }
  | _ => none }
def quorumBackRow : OpenClaim := { program := "ytdladjgdhnkkcaa", sum := "6eee714d18177bd9f80a2230c8b64486b4df73994ebcce7b06ba7a108baa586c", func := "matins/matinslaw12.QuorumBack", spec := "quorumBack", unfollowed := true, recurses := true, apart := false }
def QuorumBackSaid : Prop := quorumBackRow.holds Try.pinned (OpenSpec.ofChange quorumBackSpec)

/-- ITS FALSE NEIGHBOUR: 'it returns false'. Refute it at one input. -/
def quorumBackWrong : ChangeSpec := { name := "quorumBack", fn := fun _ => fun
  | [d1, d2] => { results := [.lit (.bool false)], args := [d1, d2] }
  | _ => none }
def QuorumBackWrongFalsely : Prop := quorumBackRow.holds Try.pinned (OpenSpec.ofChange quorumBackWrong)

/-- 'matinslaw12.QuorumDecides': WHATEVER THE INPUT: true; the input reads as it did. -/
def quorumDecidesSpec : ChangeSpec := { name := "quorumDecides", fn := fun _ => fun
  | [d1, d2, d3] => { results := [.lit (.bool true)], args := [d1, d2, d3] }
  | _ => none }
def quorumDecidesRow : OpenClaim := { program := "ytdladjgdhnkkcaa", sum := "6eee714d18177bd9f80a2230c8b64486b4df73994ebcce7b06ba7a108baa586c", func := "matins/matinslaw12.QuorumDecides", spec := "quorumDecides", unfollowed := true, recurses := true, apart := false }
def QuorumDecidesSaid : Prop := quorumDecidesRow.holds Try.pinned (OpenSpec.ofChange quorumDecidesSpec)

/-- ITS FALSE NEIGHBOUR: 'it returns false'. Refute it at one input. -/
def quorumDecidesWrong : ChangeSpec := { name := "quorumDecides", fn := fun _ => fun
  | [d1, d2, d3] => { results := [.lit (.bool false)], args := [d1, d2, d3] }
  | _ => none }
def QuorumDecidesWrongFalsely : Prop := quorumDecidesRow.holds Try.pinned (OpenSpec.ofChange quorumDecidesWrong)

/-- 'matinslaw14.RaftKeeps': WHATEVER THE INPUT: true; the input reads as it did. -/
def raftKeepsSpec : ChangeSpec := { name := "raftKeeps", fn := fun _ => fun
  | [d1, d2, d3] => { results := [.lit (.bool true)], args := [d1, d2, d3] }
  | _ => none }
def raftKeepsRow : OpenClaim := { program := "ytdladjgdhnkkcaa", sum := "6eee714d18177bd9f80a2230c8b64486b4df73994ebcce7b06ba7a108baa586c", func := "matins/matinslaw14.RaftKeeps", spec := "raftKeeps", unfollowed := true, recurses := true, apart := false }
def RaftKeepsSaid : Prop := raftKeepsRow.holds Try.pinned (OpenSpec.ofChange raftKeepsSpec)

/-- ITS FALSE NEIGHBOUR: 'it returns false'. Refute it at one input. -/
def raftKeepsWrong : ChangeSpec := { name := "raftKeeps", fn := fun _ => fun
  | [d1, d2, d3] => { results := [.lit (.bool false)], args := [d1, d2, d3] }
  | _ => none }
def RaftKeepsWrongFalsely : Prop := raftKeepsRow.holds Try.pinned (OpenSpec.ofChange raftKeepsWrong)

/-- 'matinslaw14.RaftVotes': WHATEVER THE INPUT: true; the input reads as it did. -/
def raftVotesSpec : ChangeSpec := { name := "raftVotes", fn := fun _ => fun
  | [d1, d2] => { results := [.lit (.bool true)], args := [d1, d2] }
  | _ => none }
def raftVotesRow : OpenClaim := { program := "ytdladjgdhnkkcaa", sum := "6eee714d18177bd9f80a2230c8b64486b4df73994ebcce7b06ba7a108baa586c", func := "matins/matinslaw14.RaftVotes", spec := "raftVotes", unfollowed := true, recurses := true, apart := false }
def RaftVotesSaid : Prop := raftVotesRow.holds Try.pinned (OpenSpec.ofChange raftVotesSpec)

/-- ITS FALSE NEIGHBOUR: 'it returns false'. Refute it at one input. -/
def raftVotesWrong : ChangeSpec := { name := "raftVotes", fn := fun _ => fun
  | [d1, d2] => { results := [.lit (.bool false)], args := [d1, d2] }
  | _ => none }
def RaftVotesWrongFalsely : Prop := raftVotesRow.holds Try.pinned (OpenSpec.ofChange raftVotesWrong)

/- THE SECOND FORM. 'bulk': how many values and letters a reading holds, each counted each time it is reached (what is shared counts as often as it is met; a slice's spare places count too). A statement '..UptoSaid' is the law's where the arguments, and the package variables that the reading takes, are together of bulk at most 1048576: NARROWER than '..Said'. Prove '..Said' where nothing that the law and all that it calls make is longer than what came in: it says more and counts as full. Else prove '..UptoSaid'. A law counts once. -/
mutual
def uptoBulk {H : Type} : DataW H → Nat
  | .lit (.string bytes) => bytes.length + 1
  | .lit _ => 1
  | .nil => 1
  | .ptr d => uptoBulk d + 1
  | .slice elems spare => uptoBulkAll elems + uptoBulkAll spare + 1
  | .agg parts => uptoBulkAll parts + 1
  | .iface _ d => uptoBulk d + 1
  | .map entries => uptoBulkEntries entries + 1
  | .held _ => 1
def uptoBulkAll {H : Type} : List (DataW H) → Nat
  | [] => 0
  | d :: r => uptoBulk d + uptoBulkAll r
def uptoBulkEntries {H : Type} : List (Lit × DataW H) → Nat
  | [] => 0
  | x :: r => uptoBulkEntry x + uptoBulkEntries r
def uptoBulkEntry {H : Type} : Lit × DataW H → Nat
  | (.string bytes, d) => bytes.length + uptoBulk d + 1
  | (_, d) => uptoBulk d + 1
 end
def uptoSmall : (H : Type) → List (DataW H) → Bool := fun _ ds => decide (uptoBulkAll ds ≤ 1048576)
def OpenSpec.upto (s : _root_.Go.ChangeSpec) : _root_.Go.OpenSpec := { _root_.Go.OpenSpec.ofChange s with cond := some uptoSmall }

/-- 'matinslaw13.TrailMatches', WHERE WHAT IT READS IS OF BULK AT MOST 1048576: true; the input reads as it did. -/
def trailMatchesUptoRow : OpenClaim := { program := "ytdladjgdhnkkcaa", sum := "6eee714d18177bd9f80a2230c8b64486b4df73994ebcce7b06ba7a108baa586c", func := "matins/matinslaw13.TrailMatches", spec := "trailMatches", apart := false, narrowed := true }
def TrailMatchesUptoSaid : Prop := trailMatchesUptoRow.holds Try.pinned (OpenSpec.upto trailMatchesSpec)

/-- 'matinslaw13.TrailParts', WHERE WHAT IT READS IS OF BULK AT MOST 1048576: true; the input reads as it did. -/
def trailPartsUptoRow : OpenClaim := { program := "ytdladjgdhnkkcaa", sum := "6eee714d18177bd9f80a2230c8b64486b4df73994ebcce7b06ba7a108baa586c", func := "matins/matinslaw13.TrailParts", spec := "trailParts", apart := false, narrowed := true }
def TrailPartsUptoSaid : Prop := trailPartsUptoRow.holds Try.pinned (OpenSpec.upto trailPartsSpec)

/-- 'matinslaw13.TrailNewer', WHERE WHAT IT READS IS OF BULK AT MOST 1048576: true; the input reads as it did. -/
def trailNewerUptoRow : OpenClaim := { program := "ytdladjgdhnkkcaa", sum := "6eee714d18177bd9f80a2230c8b64486b4df73994ebcce7b06ba7a108baa586c", func := "matins/matinslaw13.TrailNewer", spec := "trailNewer", apart := false, narrowed := true }
def TrailNewerUptoSaid : Prop := trailNewerUptoRow.holds Try.pinned (OpenSpec.upto trailNewerSpec)

/-- 'matinslaw13.TrailPuts', WHERE WHAT IT READS IS OF BULK AT MOST 1048576: true; the input reads as it did. -/
def trailPutsUptoRow : OpenClaim := { program := "ytdladjgdhnkkcaa", sum := "6eee714d18177bd9f80a2230c8b64486b4df73994ebcce7b06ba7a108baa586c", func := "matins/matinslaw13.TrailPuts", spec := "trailPuts", apart := false, narrowed := true }
def TrailPutsUptoSaid : Prop := trailPutsUptoRow.holds Try.pinned (OpenSpec.upto trailPutsSpec)

/-- 'matinslaw13.TrailTells', WHERE WHAT IT READS IS OF BULK AT MOST 1048576: true; the input reads as it did. -/
def trailTellsUptoRow : OpenClaim := { program := "ytdladjgdhnkkcaa", sum := "6eee714d18177bd9f80a2230c8b64486b4df73994ebcce7b06ba7a108baa586c", func := "matins/matinslaw13.TrailTells", spec := "trailTells", apart := false, narrowed := true }
def TrailTellsUptoSaid : Prop := trailTellsUptoRow.holds Try.pinned (OpenSpec.upto trailTellsSpec)

/-- 'matinslaw14.RaftStays', WHERE WHAT IT READS IS OF BULK AT MOST 1048576: true; the input reads as it did. -/
def raftStaysUptoRow : OpenClaim := { program := "ytdladjgdhnkkcaa", sum := "6eee714d18177bd9f80a2230c8b64486b4df73994ebcce7b06ba7a108baa586c", func := "matins/matinslaw14.RaftStays", spec := "raftStays", unfollowed := true, recurses := true, apart := false, narrowed := true }
def RaftStaysUptoSaid : Prop := raftStaysUptoRow.holds Try.pinned (OpenSpec.upto raftStaysSpec)

/-- 'matinslaw12.QuorumReached', WHERE WHAT IT READS IS OF BULK AT MOST 1048576: true; the input reads as it did. -/
def quorumReachedUptoRow : OpenClaim := { program := "ytdladjgdhnkkcaa", sum := "6eee714d18177bd9f80a2230c8b64486b4df73994ebcce7b06ba7a108baa586c", func := "matins/matinslaw12.QuorumReached", spec := "quorumReached", unfollowed := true, recurses := true, apart := false, narrowed := true }
def QuorumReachedUptoSaid : Prop := quorumReachedUptoRow.holds Try.pinned (OpenSpec.upto quorumReachedSpec)

/-- 'matinslaw12.QuorumMeets', WHERE WHAT IT READS IS OF BULK AT MOST 1048576: true; the input reads as it did. -/
def quorumMeetsUptoRow : OpenClaim := { program := "ytdladjgdhnkkcaa", sum := "6eee714d18177bd9f80a2230c8b64486b4df73994ebcce7b06ba7a108baa586c", func := "matins/matinslaw12.QuorumMeets", spec := "quorumMeets", unfollowed := true, recurses := true, apart := false, narrowed := true }
def QuorumMeetsUptoSaid : Prop := quorumMeetsUptoRow.holds Try.pinned (OpenSpec.upto quorumMeetsSpec)

/-- 'matinslaw12.QuorumMedian', WHERE WHAT IT READS IS OF BULK AT MOST 1048576: true; the input reads as it did. -/
def quorumMedianUptoRow : OpenClaim := { program := "ytdladjgdhnkkcaa", sum := "6eee714d18177bd9f80a2230c8b64486b4df73994ebcce7b06ba7a108baa586c", func := "matins/matinslaw12.QuorumMedian", spec := "quorumMedian", unfollowed := true, recurses := true, apart := false, narrowed := true }
def QuorumMedianUptoSaid : Prop := quorumMedianUptoRow.holds Try.pinned (OpenSpec.upto quorumMedianSpec)

/-- 'matinslaw12.QuorumGrows', WHERE WHAT IT READS IS OF BULK AT MOST 1048576: true; the input reads as it did. -/
def quorumGrowsUptoRow : OpenClaim := { program := "ytdladjgdhnkkcaa", sum := "6eee714d18177bd9f80a2230c8b64486b4df73994ebcce7b06ba7a108baa586c", func := "matins/matinslaw12.QuorumGrows", spec := "quorumGrows", unfollowed := true, recurses := true, apart := false, narrowed := true }
def QuorumGrowsUptoSaid : Prop := quorumGrowsUptoRow.holds Try.pinned (OpenSpec.upto quorumGrowsSpec)

/-- 'matinslaw12.QuorumBack', WHERE WHAT IT READS IS OF BULK AT MOST 1048576: true; the input reads as it did. -/
def quorumBackUptoRow : OpenClaim := { program := "ytdladjgdhnkkcaa", sum := "6eee714d18177bd9f80a2230c8b64486b4df73994ebcce7b06ba7a108baa586c", func := "matins/matinslaw12.QuorumBack", spec := "quorumBack", unfollowed := true, recurses := true, apart := false, narrowed := true }
def QuorumBackUptoSaid : Prop := quorumBackUptoRow.holds Try.pinned (OpenSpec.upto quorumBackSpec)

/-- 'matinslaw12.QuorumDecides', WHERE WHAT IT READS IS OF BULK AT MOST 1048576: true; the input reads as it did. -/
def quorumDecidesUptoRow : OpenClaim := { program := "ytdladjgdhnkkcaa", sum := "6eee714d18177bd9f80a2230c8b64486b4df73994ebcce7b06ba7a108baa586c", func := "matins/matinslaw12.QuorumDecides", spec := "quorumDecides", unfollowed := true, recurses := true, apart := false, narrowed := true }
def QuorumDecidesUptoSaid : Prop := quorumDecidesUptoRow.holds Try.pinned (OpenSpec.upto quorumDecidesSpec)

/-- 'matinslaw14.RaftKeeps', WHERE WHAT IT READS IS OF BULK AT MOST 1048576: true; the input reads as it did. -/
def raftKeepsUptoRow : OpenClaim := { program := "ytdladjgdhnkkcaa", sum := "6eee714d18177bd9f80a2230c8b64486b4df73994ebcce7b06ba7a108baa586c", func := "matins/matinslaw14.RaftKeeps", spec := "raftKeeps", unfollowed := true, recurses := true, apart := false, narrowed := true }
def RaftKeepsUptoSaid : Prop := raftKeepsUptoRow.holds Try.pinned (OpenSpec.upto raftKeepsSpec)

/-- 'matinslaw14.RaftVotes', WHERE WHAT IT READS IS OF BULK AT MOST 1048576: true; the input reads as it did. -/
def raftVotesUptoRow : OpenClaim := { program := "ytdladjgdhnkkcaa", sum := "6eee714d18177bd9f80a2230c8b64486b4df73994ebcce7b06ba7a108baa586c", func := "matins/matinslaw14.RaftVotes", spec := "raftVotes", unfollowed := true, recurses := true, apart := false, narrowed := true }
def RaftVotesUptoSaid : Prop := raftVotesUptoRow.holds Try.pinned (OpenSpec.upto raftVotesSpec)

end Rows
end Go.Proofs.Ytdladjgdhnkkcaa
