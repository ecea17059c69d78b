/-
  No cell of these rows narrows 'for every input' (looked for: loops, veiled, ifaces, maps, wideKeys, modest, calm, conditions, laid).
  DERIVED. THE GIVEN ROWS OF THIS SEAT. 12 by the template 'for every input the law returns true; each argument reads behind the call as it read before'; 0 by the template 'total and deterministic' (their statements: YtbndodeihodjfaaGreatTotals.lean).
  GIVEN WITH THE SEED: the statements are not yours to turn. If you find one false, say at which input.
  Laid BY PROGRAM, IN A SANDBOX (cutbox-rows.mjs): the forced cells as the released guide's own fill.sh prints them over the translation 4732dee6969c206d… (all of the seat's roots in one cut). By AI agents, Wed Nov 11 2026. No macro, syntax, notation, axiom, sorry.
-/
import Derived.Test.YtbndodeihodjfaaGreatChecked
import GoSem.Claim
import GoSem.ClaimJoined
import GoSem.ClaimMapViews
import Derived.JoinedTies
import Derived.KernelRfl
namespace Go.Proofs.YtbndodeihodjfaaGreat
/- THE CELL 'sum', in the pinned program and in every row, IS THE sha256 OF THE DUMP (.gsa) THAT YtbndodeihodjfaaGreatProg.lean LOADS. Nothing in Lean hashes anything: it is a label: what it is worth is what the hold of that sum in a sandbox is worth. -/
noncomputable def Tryz.pinned : Pinned := { name := "ytbndodeihodjfaagreat", sum := "4732dee6969c206d5db2d875f4297440cddca1fe46cfbfabf8e2beb686a58503", checked := Tryz.checked }
namespace Rows
def none {H : Type} : Left H := { results := [], args := [] }

/-- 'promptbooklaw26.TruthPlays': WHATEVER THE INPUT: true; the input reads as it did. -/
def truthPlaysSpec : ChangeSpec := { name := "truthPlays", fn := fun _ => fun
  | [d1, d2, d3, d4, d5] => { results := [.lit (.bool true)], args := [d1, d2, d3, d4, d5] }
  | _ => none }
def truthPlaysRow : OpenClaim := { program := "ytbndodeihodjfaagreat", sum := "4732dee6969c206d5db2d875f4297440cddca1fe46cfbfabf8e2beb686a58503", func := "promptbook/promptbooklaw26.TruthPlays", spec := "truthPlays", inPlace := ["slices.overlaps[promptbook/api.Event]"], unfollowed := true, recurses := true, apart := false }
def TruthPlaysSaid : Prop := truthPlaysRow.holds Tryz.pinned (OpenSpec.ofChange truthPlaysSpec)

/-- ITS FALSE NEIGHBOUR: 'it returns false'. Refute it at one input. -/
def truthPlaysWrong : ChangeSpec := { name := "truthPlays", fn := fun _ => fun
  | [d1, d2, d3, d4, d5] => { results := [.lit (.bool false)], args := [d1, d2, d3, d4, d5] }
  | _ => none }
def TruthPlaysWrongFalsely : Prop := truthPlaysRow.holds Tryz.pinned (OpenSpec.ofChange truthPlaysWrong)

/-- 'promptbooklaw28.TapeTells': WHATEVER THE INPUT: true; the input reads as it did. -/
def tapeTellsSpec : ChangeSpec := { name := "tapeTells", fn := fun _ => fun
  | [d] => { results := [.lit (.bool true)], args := [d] }
  | _ => none }
def tapeTellsRow : OpenClaim := { program := "ytbndodeihodjfaagreat", sum := "4732dee6969c206d5db2d875f4297440cddca1fe46cfbfabf8e2beb686a58503", func := "promptbook/promptbooklaw28.TapeTells", spec := "tapeTells", inPlace := ["slices.overlaps[promptbook/api.Event]"], unfollowed := true, recurses := true, apart := false }
def TapeTellsSaid : Prop := tapeTellsRow.holds Tryz.pinned (OpenSpec.ofChange tapeTellsSpec)

/-- ITS FALSE NEIGHBOUR: 'it returns false'. Refute it at one input. -/
def tapeTellsWrong : ChangeSpec := { name := "tapeTells", fn := fun _ => fun
  | [d] => { results := [.lit (.bool false)], args := [d] }
  | _ => none }
def TapeTellsWrongFalsely : Prop := tapeTellsRow.holds Tryz.pinned (OpenSpec.ofChange tapeTellsWrong)

/-- 'promptbooklaw28.TapeSeeks': WHATEVER THE INPUT: true; the input reads as it did. -/
def tapeSeeksSpec : ChangeSpec := { name := "tapeSeeks", fn := fun _ => fun
  | [d1, d2, d3, d4, d5, d6] => { results := [.lit (.bool true)], args := [d1, d2, d3, d4, d5, d6] }
  | _ => none }
def tapeSeeksRow : OpenClaim := { program := "ytbndodeihodjfaagreat", sum := "4732dee6969c206d5db2d875f4297440cddca1fe46cfbfabf8e2beb686a58503", func := "promptbook/promptbooklaw28.TapeSeeks", spec := "tapeSeeks", inPlace := ["slices.overlaps[promptbook/api.Event]"], unfollowed := true, recurses := true, apart := false }
def TapeSeeksSaid : Prop := tapeSeeksRow.holds Tryz.pinned (OpenSpec.ofChange tapeSeeksSpec)

/-- ITS FALSE NEIGHBOUR: 'it returns false'. Refute it at one input. -/
def tapeSeeksWrong : ChangeSpec := { name := "tapeSeeks", fn := fun _ => fun
  | [d1, d2, d3, d4, d5, d6] => { results := [.lit (.bool false)], args := [d1, d2, d3, d4, d5, d6] }
  | _ => none }
def TapeSeeksWrongFalsely : Prop := tapeSeeksRow.holds Tryz.pinned (OpenSpec.ofChange tapeSeeksWrong)

/-- 'promptbooklaw15.CoreTells': WHATEVER THE INPUT: true; the input reads as it did. -/
def coreTellsSpec : ChangeSpec := { name := "coreTells", fn := fun _ => fun
  | [d1, d2] => { results := [.lit (.bool true)], args := [d1, d2] }
  | _ => none }
def coreTellsRow : OpenClaim := { program := "ytbndodeihodjfaagreat", sum := "4732dee6969c206d5db2d875f4297440cddca1fe46cfbfabf8e2beb686a58503", func := "promptbook/promptbooklaw15.CoreTells", spec := "coreTells", inPlace := ["slices.overlaps[promptbook/api.Event]"], unfollowed := true, recurses := true, apart := false }
def CoreTellsSaid : Prop := coreTellsRow.holds Tryz.pinned (OpenSpec.ofChange coreTellsSpec)

/-- ITS FALSE NEIGHBOUR: 'it returns false'. Refute it at one input. -/
def coreTellsWrong : ChangeSpec := { name := "coreTells", fn := fun _ => fun
  | [d1, d2] => { results := [.lit (.bool false)], args := [d1, d2] }
  | _ => none }
def CoreTellsWrongFalsely : Prop := coreTellsRow.holds Tryz.pinned (OpenSpec.ofChange coreTellsWrong)

/-- 'promptbooklaw15.CoreBounds': WHATEVER THE INPUT: true; the input reads as it did. -/
def coreBoundsSpec : ChangeSpec := { name := "coreBounds", fn := fun _ => fun
  | [d1, d2] => { results := [.lit (.bool true)], args := [d1, d2] }
  | _ => none }
def coreBoundsRow : OpenClaim := { program := "ytbndodeihodjfaagreat", sum := "4732dee6969c206d5db2d875f4297440cddca1fe46cfbfabf8e2beb686a58503", func := "promptbook/promptbooklaw15.CoreBounds", spec := "coreBounds", inPlace := ["slices.overlaps[promptbook/api.Event]"], unfollowed := true, recurses := true, apart := false }
def CoreBoundsSaid : Prop := coreBoundsRow.holds Tryz.pinned (OpenSpec.ofChange coreBoundsSpec)

/-- ITS FALSE NEIGHBOUR: 'it returns false'. Refute it at one input. -/
def coreBoundsWrong : ChangeSpec := { name := "coreBounds", fn := fun _ => fun
  | [d1, d2] => { results := [.lit (.bool false)], args := [d1, d2] }
  | _ => none }
def CoreBoundsWrongFalsely : Prop := coreBoundsRow.holds Tryz.pinned (OpenSpec.ofChange coreBoundsWrong)

/-- 'promptbooklaw28.TapeKeeps': WHATEVER THE INPUT: true; the input reads as it did. -/
def tapeKeepsSpec : ChangeSpec := { name := "tapeKeeps", fn := fun _ => fun
  | [d1, d2, d3] => { results := [.lit (.bool true)], args := [d1, d2, d3] }
  | _ => none }
def tapeKeepsRow : OpenClaim := { program := "ytbndodeihodjfaagreat", sum := "4732dee6969c206d5db2d875f4297440cddca1fe46cfbfabf8e2beb686a58503", func := "promptbook/promptbooklaw28.TapeKeeps", spec := "tapeKeeps", inPlace := ["slices.overlaps[promptbook/api.Event]"], unfollowed := true, recurses := true, apart := false }
def TapeKeepsSaid : Prop := tapeKeepsRow.holds Tryz.pinned (OpenSpec.ofChange tapeKeepsSpec)

/-- ITS FALSE NEIGHBOUR: 'it returns false'. Refute it at one input. -/
def tapeKeepsWrong : ChangeSpec := { name := "tapeKeeps", fn := fun _ => fun
  | [d1, d2, d3] => { results := [.lit (.bool false)], args := [d1, d2, d3] }
  | _ => none }
def TapeKeepsWrongFalsely : Prop := tapeKeepsRow.holds Tryz.pinned (OpenSpec.ofChange tapeKeepsWrong)

/-- 'promptbooklaw28.TapeReads': WHATEVER THE INPUT: true; the input reads as it did. -/
def tapeReadsSpec : ChangeSpec := { name := "tapeReads", fn := fun _ => fun
  | [d] => { results := [.lit (.bool true)], args := [d] }
  | _ => none }
def tapeReadsRow : OpenClaim := { program := "ytbndodeihodjfaagreat", sum := "4732dee6969c206d5db2d875f4297440cddca1fe46cfbfabf8e2beb686a58503", func := "promptbook/promptbooklaw28.TapeReads", spec := "tapeReads", inPlace := ["slices.overlaps[promptbook/api.Event]"], unfollowed := true, recurses := true, apart := false }
def TapeReadsSaid : Prop := tapeReadsRow.holds Tryz.pinned (OpenSpec.ofChange tapeReadsSpec)

/-- ITS FALSE NEIGHBOUR: 'it returns false'. Refute it at one input. -/
def tapeReadsWrong : ChangeSpec := { name := "tapeReads", fn := fun _ => fun
  | [d] => { results := [.lit (.bool false)], args := [d] }
  | _ => none }
def TapeReadsWrongFalsely : Prop := tapeReadsRow.holds Tryz.pinned (OpenSpec.ofChange tapeReadsWrong)

/-- 'promptbooklaw15.CorePlays': WHATEVER THE INPUT: true; the input reads as it did. -/
def corePlaysSpec : ChangeSpec := { name := "corePlays", fn := fun _ => fun
  | [d1, d2, d3] => { results := [.lit (.bool true)], args := [d1, d2, d3] }
  | _ => none }
def corePlaysRow : OpenClaim := { program := "ytbndodeihodjfaagreat", sum := "4732dee6969c206d5db2d875f4297440cddca1fe46cfbfabf8e2beb686a58503", func := "promptbook/promptbooklaw15.CorePlays", spec := "corePlays", inPlace := ["slices.overlaps[promptbook/api.Event]"], unfollowed := true, recurses := true, apart := false }
def CorePlaysSaid : Prop := corePlaysRow.holds Tryz.pinned (OpenSpec.ofChange corePlaysSpec)

/-- ITS FALSE NEIGHBOUR: 'it returns false'. Refute it at one input. -/
def corePlaysWrong : ChangeSpec := { name := "corePlays", fn := fun _ => fun
  | [d1, d2, d3] => { results := [.lit (.bool false)], args := [d1, d2, d3] }
  | _ => none }
def CorePlaysWrongFalsely : Prop := corePlaysRow.holds Tryz.pinned (OpenSpec.ofChange corePlaysWrong)

/-- 'promptbooklaw15.CoreNil': WHATEVER THE INPUT: true; the input reads as it did. -/
def coreNilSpec : ChangeSpec := { name := "coreNil", fn := fun _ => fun
  | [d1, d2] => { results := [.lit (.bool true)], args := [d1, d2] }
  | _ => none }
def coreNilRow : OpenClaim := { program := "ytbndodeihodjfaagreat", sum := "4732dee6969c206d5db2d875f4297440cddca1fe46cfbfabf8e2beb686a58503", func := "promptbook/promptbooklaw15.CoreNil", spec := "coreNil", inPlace := ["slices.overlaps[promptbook/api.Event]"], unfollowed := true, recurses := true, apart := false }
def CoreNilSaid : Prop := coreNilRow.holds Tryz.pinned (OpenSpec.ofChange coreNilSpec)

/-- ITS FALSE NEIGHBOUR: 'it returns false'. Refute it at one input. -/
def coreNilWrong : ChangeSpec := { name := "coreNil", fn := fun _ => fun
  | [d1, d2] => { results := [.lit (.bool false)], args := [d1, d2] }
  | _ => none }
def CoreNilWrongFalsely : Prop := coreNilRow.holds Tryz.pinned (OpenSpec.ofChange coreNilWrong)

/-- 'promptbooklaw31.WaveGames': WHATEVER THE INPUT: true; the input reads as it did. -/
def waveGamesSpec : ChangeSpec := { name := "waveGames", fn := fun _ => fun
  | [d1, d2] => { results := [.lit (.bool true)], args := [d1, d2] }
  | _ => none }
def waveGamesRow : OpenClaim := { program := "ytbndodeihodjfaagreat", sum := "4732dee6969c206d5db2d875f4297440cddca1fe46cfbfabf8e2beb686a58503", func := "promptbook/promptbooklaw31.WaveGames", spec := "waveGames", inPlace := ["internal/abi.NoEscape", "slices.overlaps[promptbook/api.Event]"], unfollowed := true, recurses := true, apart := false }
def WaveGamesSaid : Prop := waveGamesRow.holds Tryz.pinned (OpenSpec.ofChange waveGamesSpec)

/-- ITS FALSE NEIGHBOUR: 'it returns false'. Refute it at one input. -/
def waveGamesWrong : ChangeSpec := { name := "waveGames", fn := fun _ => fun
  | [d1, d2] => { results := [.lit (.bool false)], args := [d1, d2] }
  | _ => none }
def WaveGamesWrongFalsely : Prop := waveGamesRow.holds Tryz.pinned (OpenSpec.ofChange waveGamesWrong)

/-- 'promptbooklaw33.WatcherSees': WHATEVER THE INPUT: true; the input reads as it did. -/
def watcherSeesSpec : ChangeSpec := { name := "watcherSees", fn := fun _ => fun
  | [d1, d2, d3] => { results := [.lit (.bool true)], args := [d1, d2, d3] }
  | _ => none }
def watcherSeesRow : OpenClaim := { program := "ytbndodeihodjfaagreat", sum := "4732dee6969c206d5db2d875f4297440cddca1fe46cfbfabf8e2beb686a58503", func := "promptbook/promptbooklaw33.WatcherSees", spec := "watcherSees", inPlace := ["slices.overlaps[promptbook/api.Event]"], unfollowed := true, recurses := true, apart := false }
def WatcherSeesSaid : Prop := watcherSeesRow.holds Tryz.pinned (OpenSpec.ofChange watcherSeesSpec)

/-- ITS FALSE NEIGHBOUR: 'it returns false'. Refute it at one input. -/
def watcherSeesWrong : ChangeSpec := { name := "watcherSees", fn := fun _ => fun
  | [d1, d2, d3] => { results := [.lit (.bool false)], args := [d1, d2, d3] }
  | _ => none }
def WatcherSeesWrongFalsely : Prop := watcherSeesRow.holds Tryz.pinned (OpenSpec.ofChange watcherSeesWrong)

/-- 'promptbooklaw33.WatcherNil': WHATEVER THE INPUT: true; the input reads as it did. -/
def watcherNilSpec : ChangeSpec := { name := "watcherNil", fn := fun _ => fun
  | [d1, d2] => { results := [.lit (.bool true)], args := [d1, d2] }
  | _ => none }
def watcherNilRow : OpenClaim := { program := "ytbndodeihodjfaagreat", sum := "4732dee6969c206d5db2d875f4297440cddca1fe46cfbfabf8e2beb686a58503", func := "promptbook/promptbooklaw33.WatcherNil", spec := "watcherNil", inPlace := ["slices.overlaps[promptbook/api.Event]"], unfollowed := true, recurses := true, apart := false }
def WatcherNilSaid : Prop := watcherNilRow.holds Tryz.pinned (OpenSpec.ofChange watcherNilSpec)

/-- ITS FALSE NEIGHBOUR: 'it returns false'. Refute it at one input. -/
def watcherNilWrong : ChangeSpec := { name := "watcherNil", fn := fun _ => fun
  | [d1, d2] => { results := [.lit (.bool false)], args := [d1, d2] }
  | _ => none }
def WatcherNilWrongFalsely : Prop := watcherNilRow.holds Tryz.pinned (OpenSpec.ofChange watcherNilWrong)

/- THE SECOND FORM. 'bulk': how many values and letters a reading holds, each counted each time it is reached (what is shared counts as often as it is met; a slice's spare places count too). A statement '..UptoSaid' is the law's where the arguments, and the package variables that the reading takes, are together of bulk at most 1048576: NARROWER than '..Said'. Prove '..Said' where nothing that the law and all that it calls make is longer than what came in: it says more and counts as full. Else prove '..UptoSaid'. A law counts once. -/
mutual
def uptoBulk {H : Type} : DataW H → Nat
  | .lit (.string bytes) => bytes.length + 1
  | .lit _ => 1
  | .nil => 1
  | .ptr d => uptoBulk d + 1
  | .slice elems spare => uptoBulkAll elems + uptoBulkAll spare + 1
  | .agg parts => uptoBulkAll parts + 1
  | .iface _ d => uptoBulk d + 1
  | .map entries => uptoBulkEntries entries + 1
  | .held _ => 1
def uptoBulkAll {H : Type} : List (DataW H) → Nat
  | [] => 0
  | d :: r => uptoBulk d + uptoBulkAll r
def uptoBulkEntries {H : Type} : List (Lit × DataW H) → Nat
  | [] => 0
  | x :: r => uptoBulkEntry x + uptoBulkEntries r
def uptoBulkEntry {H : Type} : Lit × DataW H → Nat
  | (.string bytes, d) => bytes.length + uptoBulk d + 1
  | (_, d) => uptoBulk d + 1
 end
def uptoSmall : (H : Type) → List (DataW H) → Bool := fun _ ds => decide (uptoBulkAll ds ≤ 1048576)
def OpenSpec.upto (s : _root_.Go.ChangeSpec) : _root_.Go.OpenSpec := { _root_.Go.OpenSpec.ofChange s with cond := some uptoSmall }

/-- 'promptbooklaw26.TruthPlays', WHERE WHAT IT READS IS OF BULK AT MOST 1048576: true; the input reads as it did. -/
def truthPlaysUptoRow : OpenClaim := { program := "ytbndodeihodjfaagreat", sum := "4732dee6969c206d5db2d875f4297440cddca1fe46cfbfabf8e2beb686a58503", func := "promptbook/promptbooklaw26.TruthPlays", spec := "truthPlays", inPlace := ["slices.overlaps[promptbook/api.Event]"], unfollowed := true, recurses := true, apart := false, narrowed := true }
def TruthPlaysUptoSaid : Prop := truthPlaysUptoRow.holds Tryz.pinned (OpenSpec.upto truthPlaysSpec)

/-- 'promptbooklaw28.TapeTells', WHERE WHAT IT READS IS OF BULK AT MOST 1048576: true; the input reads as it did. -/
def tapeTellsUptoRow : OpenClaim := { program := "ytbndodeihodjfaagreat", sum := "4732dee6969c206d5db2d875f4297440cddca1fe46cfbfabf8e2beb686a58503", func := "promptbook/promptbooklaw28.TapeTells", spec := "tapeTells", inPlace := ["slices.overlaps[promptbook/api.Event]"], unfollowed := true, recurses := true, apart := false, narrowed := true }
def TapeTellsUptoSaid : Prop := tapeTellsUptoRow.holds Tryz.pinned (OpenSpec.upto tapeTellsSpec)

/-- 'promptbooklaw28.TapeSeeks', WHERE WHAT IT READS IS OF BULK AT MOST 1048576: true; the input reads as it did. -/
def tapeSeeksUptoRow : OpenClaim := { program := "ytbndodeihodjfaagreat", sum := "4732dee6969c206d5db2d875f4297440cddca1fe46cfbfabf8e2beb686a58503", func := "promptbook/promptbooklaw28.TapeSeeks", spec := "tapeSeeks", inPlace := ["slices.overlaps[promptbook/api.Event]"], unfollowed := true, recurses := true, apart := false, narrowed := true }
def TapeSeeksUptoSaid : Prop := tapeSeeksUptoRow.holds Tryz.pinned (OpenSpec.upto tapeSeeksSpec)

/-- 'promptbooklaw15.CoreTells', WHERE WHAT IT READS IS OF BULK AT MOST 1048576: true; the input reads as it did. -/
def coreTellsUptoRow : OpenClaim := { program := "ytbndodeihodjfaagreat", sum := "4732dee6969c206d5db2d875f4297440cddca1fe46cfbfabf8e2beb686a58503", func := "promptbook/promptbooklaw15.CoreTells", spec := "coreTells", inPlace := ["slices.overlaps[promptbook/api.Event]"], unfollowed := true, recurses := true, apart := false, narrowed := true }
def CoreTellsUptoSaid : Prop := coreTellsUptoRow.holds Tryz.pinned (OpenSpec.upto coreTellsSpec)

/-- 'promptbooklaw15.CoreBounds', WHERE WHAT IT READS IS OF BULK AT MOST 1048576: true; the input reads as it did. -/
def coreBoundsUptoRow : OpenClaim := { program := "ytbndodeihodjfaagreat", sum := "4732dee6969c206d5db2d875f4297440cddca1fe46cfbfabf8e2beb686a58503", func := "promptbook/promptbooklaw15.CoreBounds", spec := "coreBounds", inPlace := ["slices.overlaps[promptbook/api.Event]"], unfollowed := true, recurses := true, apart := false, narrowed := true }
def CoreBoundsUptoSaid : Prop := coreBoundsUptoRow.holds Tryz.pinned (OpenSpec.upto coreBoundsSpec)

/-- 'promptbooklaw28.TapeKeeps', WHERE WHAT IT READS IS OF BULK AT MOST 1048576: true; the input reads as it did. -/
def tapeKeepsUptoRow : OpenClaim := { program := "ytbndodeihodjfaagreat", sum := "4732dee6969c206d5db2d875f4297440cddca1fe46cfbfabf8e2beb686a58503", func := "promptbook/promptbooklaw28.TapeKeeps", spec := "tapeKeeps", inPlace := ["slices.overlaps[promptbook/api.Event]"], unfollowed := true, recurses := true, apart := false, narrowed := true }
def TapeKeepsUptoSaid : Prop := tapeKeepsUptoRow.holds Tryz.pinned (OpenSpec.upto tapeKeepsSpec)

/-- 'promptbooklaw28.TapeReads', WHERE WHAT IT READS IS OF BULK AT MOST 1048576: true; the input reads as it did. -/
def tapeReadsUptoRow : OpenClaim := { program := "ytbndodeihodjfaagreat", sum := "4732dee6969c206d5db2d875f4297440cddca1fe46cfbfabf8e2beb686a58503", func := "promptbook/promptbooklaw28.TapeReads", spec := "tapeReads", inPlace := ["slices.overlaps[promptbook/api.Event]"], unfollowed := true, recurses := true, apart := false, narrowed := true }
def TapeReadsUptoSaid : Prop := tapeReadsUptoRow.holds Tryz.pinned (OpenSpec.upto tapeReadsSpec)

/-- 'promptbooklaw15.CorePlays', WHERE WHAT IT READS IS OF BULK AT MOST 1048576: true; the input reads as it did. -/
def corePlaysUptoRow : OpenClaim := { program := "ytbndodeihodjfaagreat", sum := "4732dee6969c206d5db2d875f4297440cddca1fe46cfbfabf8e2beb686a58503", func := "promptbook/promptbooklaw15.CorePlays", spec := "corePlays", inPlace := ["slices.overlaps[promptbook/api.Event]"], unfollowed := true, recurses := true, apart := false, narrowed := true }
def CorePlaysUptoSaid : Prop := corePlaysUptoRow.holds Tryz.pinned (OpenSpec.upto corePlaysSpec)

/-- 'promptbooklaw15.CoreNil', WHERE WHAT IT READS IS OF BULK AT MOST 1048576: true; the input reads as it did. -/
def coreNilUptoRow : OpenClaim := { program := "ytbndodeihodjfaagreat", sum := "4732dee6969c206d5db2d875f4297440cddca1fe46cfbfabf8e2beb686a58503", func := "promptbook/promptbooklaw15.CoreNil", spec := "coreNil", inPlace := ["slices.overlaps[promptbook/api.Event]"], unfollowed := true, recurses := true, apart := false, narrowed := true }
def CoreNilUptoSaid : Prop := coreNilUptoRow.holds Tryz.pinned (OpenSpec.upto coreNilSpec)

/-- 'promptbooklaw31.WaveGames', WHERE WHAT IT READS IS OF BULK AT MOST 1048576: true; the input reads as it did. -/
def waveGamesUptoRow : OpenClaim := { program := "ytbndodeihodjfaagreat", sum := "4732dee6969c206d5db2d875f4297440cddca1fe46cfbfabf8e2beb686a58503", func := "promptbook/promptbooklaw31.WaveGames", spec := "waveGames", inPlace := ["internal/abi.NoEscape", "slices.overlaps[promptbook/api.Event]"], unfollowed := true, recurses := true, apart := false, narrowed := true }
def WaveGamesUptoSaid : Prop := waveGamesUptoRow.holds Tryz.pinned (OpenSpec.upto waveGamesSpec)

/-- 'promptbooklaw33.WatcherSees', WHERE WHAT IT READS IS OF BULK AT MOST 1048576: true; the input reads as it did. -/
def watcherSeesUptoRow : OpenClaim := { program := "ytbndodeihodjfaagreat", sum := "4732dee6969c206d5db2d875f4297440cddca1fe46cfbfabf8e2beb686a58503", func := "promptbook/promptbooklaw33.WatcherSees", spec := "watcherSees", inPlace := ["slices.overlaps[promptbook/api.Event]"], unfollowed := true, recurses := true, apart := false, narrowed := true }
def WatcherSeesUptoSaid : Prop := watcherSeesUptoRow.holds Tryz.pinned (OpenSpec.upto watcherSeesSpec)

/-- 'promptbooklaw33.WatcherNil', WHERE WHAT IT READS IS OF BULK AT MOST 1048576: true; the input reads as it did. -/
def watcherNilUptoRow : OpenClaim := { program := "ytbndodeihodjfaagreat", sum := "4732dee6969c206d5db2d875f4297440cddca1fe46cfbfabf8e2beb686a58503", func := "promptbook/promptbooklaw33.WatcherNil", spec := "watcherNil", inPlace := ["slices.overlaps[promptbook/api.Event]"], unfollowed := true, recurses := true, apart := false, narrowed := true }
def WatcherNilUptoSaid : Prop := watcherNilUptoRow.holds Tryz.pinned (OpenSpec.upto watcherNilSpec)

end Rows
end Go.Proofs.YtbndodeihodjfaaGreat
