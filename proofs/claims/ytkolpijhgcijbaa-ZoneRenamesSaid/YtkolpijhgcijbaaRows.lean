/-
  No cell of these rows narrows 'for every input' (looked for: loops, veiled, ifaces, maps, wideKeys, modest, calm, conditions, laid).
  DERIVED. THE GIVEN ROWS OF THIS SEAT. 13 by the template 'for every input the law returns true; each argument reads behind the call as it read before'; 0 by the template 'total and deterministic' (their statements: YtkolpijhgcijbaaTotals.lean).
  GIVEN WITH THE SEED: the statements are not yours to turn. If you find one false, say at which input.
  Laid BY PROGRAM, IN A SANDBOX (cutbox-rows.mjs): the forced cells as the released guide's own fill.sh prints them over the translation 9163bfe17e6f76ab… (all of the seat's roots in one cut). By AI agents, Wed Nov 11 2026. No macro, syntax, notation, axiom, sorry.
-/
import Derived.Test.YtkolpijhgcijbaaChecked
import GoSem.Claim
import GoSem.ClaimJoined
import GoSem.ClaimMapViews
import Derived.JoinedTies
import Derived.KernelRfl
namespace Go.Proofs.Ytkolpijhgcijbaa
/- THE CELL 'sum', in the pinned program and in every row, IS THE sha256 OF THE DUMP (.gsa) THAT YtkolpijhgcijbaaProg.lean LOADS. Nothing in Lean hashes anything: it is a label: what it is worth is what the hold of that sum in a sandbox is worth. -/
noncomputable def Try.pinned : Pinned := { name := "ytkolpijhgcijbaa", sum := "9163bfe17e6f76abc55ad8c719384f8c10d0d337be0139c1e43f9f348621cc07", checked := Try.checked }
namespace Rows
def none {H : Type} : Left H := { results := [], args := [] }

/-- 'quadrupolelaw03.ZoneSwaps': WHATEVER THE INPUT: true; the input reads as it did. -/
def zoneSwapsSpec : ChangeSpec := { name := "zoneSwaps", fn := fun _ => fun
  | [d1, d2, d3] => { results := [.lit (.bool true)], args := [d1, d2, d3] }
  | _ => none }
def zoneSwapsRow : OpenClaim := { program := "ytkolpijhgcijbaa", sum := "9163bfe17e6f76abc55ad8c719384f8c10d0d337be0139c1e43f9f348621cc07", func := "quadrupole/quadrupolelaw03.ZoneSwaps", spec := "zoneSwaps", unfollowed := true, recurses := true, plainKeys := false, apart := false }
def ZoneSwapsSaid : Prop := zoneSwapsRow.holds Try.pinned (OpenSpec.ofChange zoneSwapsSpec)

/-- ITS FALSE NEIGHBOUR: 'it returns false'. Refute it at one input. -/
def zoneSwapsWrong : ChangeSpec := { name := "zoneSwaps", fn := fun _ => fun
  | [d1, d2, d3] => { results := [.lit (.bool false)], args := [d1, d2, d3] }
  | _ => none }
def ZoneSwapsWrongFalsely : Prop := zoneSwapsRow.holds Try.pinned (OpenSpec.ofChange zoneSwapsWrong)

/-- 'quadrupolelaw03.ZoneTraps': WHATEVER THE INPUT: true; the input reads as it did. -/
def zoneTrapsSpec : ChangeSpec := { name := "zoneTraps", fn := fun _ => fun
  | [d1, d2, d3] => { results := [.lit (.bool true)], args := [d1, d2, d3] }
  | _ => none }
def zoneTrapsRow : OpenClaim := { program := "ytkolpijhgcijbaa", sum := "9163bfe17e6f76abc55ad8c719384f8c10d0d337be0139c1e43f9f348621cc07", func := "quadrupole/quadrupolelaw03.ZoneTraps", spec := "zoneTraps", unfollowed := true, recurses := true, plainKeys := false, apart := false }
def ZoneTrapsSaid : Prop := zoneTrapsRow.holds Try.pinned (OpenSpec.ofChange zoneTrapsSpec)

/-- ITS FALSE NEIGHBOUR: 'it returns false'. Refute it at one input. -/
def zoneTrapsWrong : ChangeSpec := { name := "zoneTraps", fn := fun _ => fun
  | [d1, d2, d3] => { results := [.lit (.bool false)], args := [d1, d2, d3] }
  | _ => none }
def ZoneTrapsWrongFalsely : Prop := zoneTrapsRow.holds Try.pinned (OpenSpec.ofChange zoneTrapsWrong)

/-- 'quadrupolelaw03.ZoneMoves': WHATEVER THE INPUT: true; the input reads as it did. -/
def zoneMovesSpec : ChangeSpec := { name := "zoneMoves", fn := fun _ => fun
  | [d1, d2] => { results := [.lit (.bool true)], args := [d1, d2] }
  | _ => none }
def zoneMovesRow : OpenClaim := { program := "ytkolpijhgcijbaa", sum := "9163bfe17e6f76abc55ad8c719384f8c10d0d337be0139c1e43f9f348621cc07", func := "quadrupole/quadrupolelaw03.ZoneMoves", spec := "zoneMoves", unfollowed := true, recurses := true, plainKeys := false, apart := false }
def ZoneMovesSaid : Prop := zoneMovesRow.holds Try.pinned (OpenSpec.ofChange zoneMovesSpec)

/-- ITS FALSE NEIGHBOUR: 'it returns false'. Refute it at one input. -/
def zoneMovesWrong : ChangeSpec := { name := "zoneMoves", fn := fun _ => fun
  | [d1, d2] => { results := [.lit (.bool false)], args := [d1, d2] }
  | _ => none }
def ZoneMovesWrongFalsely : Prop := zoneMovesRow.holds Try.pinned (OpenSpec.ofChange zoneMovesWrong)

/-- 'quadrupolelaw03.ZonePlans': WHATEVER THE INPUT: true; the input reads as it did. -/
def zonePlansSpec : ChangeSpec := { name := "zonePlans", fn := fun _ => fun
  | [d1, d2, d3] => { results := [.lit (.bool true)], args := [d1, d2, d3] }
  | _ => none }
def zonePlansRow : OpenClaim := { program := "ytkolpijhgcijbaa", sum := "9163bfe17e6f76abc55ad8c719384f8c10d0d337be0139c1e43f9f348621cc07", func := "quadrupole/quadrupolelaw03.ZonePlans", spec := "zonePlans", unfollowed := true, recurses := true, plainKeys := false, apart := false }
def ZonePlansSaid : Prop := zonePlansRow.holds Try.pinned (OpenSpec.ofChange zonePlansSpec)

/-- ITS FALSE NEIGHBOUR: 'it returns false'. Refute it at one input. -/
def zonePlansWrong : ChangeSpec := { name := "zonePlans", fn := fun _ => fun
  | [d1, d2, d3] => { results := [.lit (.bool false)], args := [d1, d2, d3] }
  | _ => none }
def ZonePlansWrongFalsely : Prop := zonePlansRow.holds Try.pinned (OpenSpec.ofChange zonePlansWrong)

/-- 'quadrupolelaw03.ZoneLess': WHATEVER THE INPUT: true; the input reads as it did. -/
def zoneLessSpec : ChangeSpec := { name := "zoneLess", fn := fun _ => fun
  | [d1, d2, d3] => { results := [.lit (.bool true)], args := [d1, d2, d3] }
  | _ => none }
def zoneLessRow : OpenClaim := { program := "ytkolpijhgcijbaa", sum := "9163bfe17e6f76abc55ad8c719384f8c10d0d337be0139c1e43f9f348621cc07", func := "quadrupole/quadrupolelaw03.ZoneLess", spec := "zoneLess", unfollowed := true, recurses := true, plainKeys := false, apart := false }
def ZoneLessSaid : Prop := zoneLessRow.holds Try.pinned (OpenSpec.ofChange zoneLessSpec)

/-- ITS FALSE NEIGHBOUR: 'it returns false'. Refute it at one input. -/
def zoneLessWrong : ChangeSpec := { name := "zoneLess", fn := fun _ => fun
  | [d1, d2, d3] => { results := [.lit (.bool false)], args := [d1, d2, d3] }
  | _ => none }
def ZoneLessWrongFalsely : Prop := zoneLessRow.holds Try.pinned (OpenSpec.ofChange zoneLessWrong)

/-- 'quadrupolelaw03.ZoneFar': WHATEVER THE INPUT: true; the input reads as it did. -/
def zoneFarSpec : ChangeSpec := { name := "zoneFar", fn := fun _ => fun
  | [d1, d2, d3] => { results := [.lit (.bool true)], args := [d1, d2, d3] }
  | _ => none }
def zoneFarRow : OpenClaim := { program := "ytkolpijhgcijbaa", sum := "9163bfe17e6f76abc55ad8c719384f8c10d0d337be0139c1e43f9f348621cc07", func := "quadrupole/quadrupolelaw03.ZoneFar", spec := "zoneFar", unfollowed := true, recurses := true, plainKeys := false, apart := false }
def ZoneFarSaid : Prop := zoneFarRow.holds Try.pinned (OpenSpec.ofChange zoneFarSpec)

/-- ITS FALSE NEIGHBOUR: 'it returns false'. Refute it at one input. -/
def zoneFarWrong : ChangeSpec := { name := "zoneFar", fn := fun _ => fun
  | [d1, d2, d3] => { results := [.lit (.bool false)], args := [d1, d2, d3] }
  | _ => none }
def ZoneFarWrongFalsely : Prop := zoneFarRow.holds Try.pinned (OpenSpec.ofChange zoneFarWrong)

/-- 'quadrupolelaw03.ZoneReaches': WHATEVER THE INPUT: true; the input reads as it did. -/
def zoneReachesSpec : ChangeSpec := { name := "zoneReaches", fn := fun _ => fun
  | [d1, d2] => { results := [.lit (.bool true)], args := [d1, d2] }
  | _ => none }
def zoneReachesRow : OpenClaim := { program := "ytkolpijhgcijbaa", sum := "9163bfe17e6f76abc55ad8c719384f8c10d0d337be0139c1e43f9f348621cc07", func := "quadrupole/quadrupolelaw03.ZoneReaches", spec := "zoneReaches", unfollowed := true, recurses := true, plainKeys := false, apart := false }
def ZoneReachesSaid : Prop := zoneReachesRow.holds Try.pinned (OpenSpec.ofChange zoneReachesSpec)

/-- ITS FALSE NEIGHBOUR: 'it returns false'. Refute it at one input. -/
def zoneReachesWrong : ChangeSpec := { name := "zoneReaches", fn := fun _ => fun
  | [d1, d2] => { results := [.lit (.bool false)], args := [d1, d2] }
  | _ => none }
def ZoneReachesWrongFalsely : Prop := zoneReachesRow.holds Try.pinned (OpenSpec.ofChange zoneReachesWrong)

/-- 'quadrupolelaw03.ZoneBacks': WHATEVER THE INPUT: true; the input reads as it did. -/
def zoneBacksSpec : ChangeSpec := { name := "zoneBacks", fn := fun _ => fun
  | [d1, d2, d3] => { results := [.lit (.bool true)], args := [d1, d2, d3] }
  | _ => none }
def zoneBacksRow : OpenClaim := { program := "ytkolpijhgcijbaa", sum := "9163bfe17e6f76abc55ad8c719384f8c10d0d337be0139c1e43f9f348621cc07", func := "quadrupole/quadrupolelaw03.ZoneBacks", spec := "zoneBacks", unfollowed := true, recurses := true, plainKeys := false, apart := false }
def ZoneBacksSaid : Prop := zoneBacksRow.holds Try.pinned (OpenSpec.ofChange zoneBacksSpec)

/-- ITS FALSE NEIGHBOUR: 'it returns false'. Refute it at one input. -/
def zoneBacksWrong : ChangeSpec := { name := "zoneBacks", fn := fun _ => fun
  | [d1, d2, d3] => { results := [.lit (.bool false)], args := [d1, d2, d3] }
  | _ => none }
def ZoneBacksWrongFalsely : Prop := zoneBacksRow.holds Try.pinned (OpenSpec.ofChange zoneBacksWrong)

/-- 'quadrupolelaw03.ZoneOver': WHATEVER THE INPUT: true; the input reads as it did. -/
def zoneOverSpec : ChangeSpec := { name := "zoneOver", fn := fun _ => fun
  | [d1, d2, d3] => { results := [.lit (.bool true)], args := [d1, d2, d3] }
  | _ => none }
def zoneOverRow : OpenClaim := { program := "ytkolpijhgcijbaa", sum := "9163bfe17e6f76abc55ad8c719384f8c10d0d337be0139c1e43f9f348621cc07", func := "quadrupole/quadrupolelaw03.ZoneOver", spec := "zoneOver", unfollowed := true, recurses := true, plainKeys := false, apart := false }
def ZoneOverSaid : Prop := zoneOverRow.holds Try.pinned (OpenSpec.ofChange zoneOverSpec)

/-- ITS FALSE NEIGHBOUR: 'it returns false'. Refute it at one input. -/
def zoneOverWrong : ChangeSpec := { name := "zoneOver", fn := fun _ => fun
  | [d1, d2, d3] => { results := [.lit (.bool false)], args := [d1, d2, d3] }
  | _ => none }
def ZoneOverWrongFalsely : Prop := zoneOverRow.holds Try.pinned (OpenSpec.ofChange zoneOverWrong)

/-- 'quadrupolelaw03.ZoneLines': WHATEVER THE INPUT: true; the input reads as it did. -/
def zoneLinesSpec : ChangeSpec := { name := "zoneLines", fn := fun _ => fun
  | [d] => { results := [.lit (.bool true)], args := [d] }
  | _ => none }
def zoneLinesRow : OpenClaim := { program := "ytkolpijhgcijbaa", sum := "9163bfe17e6f76abc55ad8c719384f8c10d0d337be0139c1e43f9f348621cc07", func := "quadrupole/quadrupolelaw03.ZoneLines", spec := "zoneLines", unfollowed := true, recurses := true, plainKeys := false, apart := false }
def ZoneLinesSaid : Prop := zoneLinesRow.holds Try.pinned (OpenSpec.ofChange zoneLinesSpec)

/-- ITS FALSE NEIGHBOUR: 'it returns false'. Refute it at one input. -/
def zoneLinesWrong : ChangeSpec := { name := "zoneLines", fn := fun _ => fun
  | [d] => { results := [.lit (.bool false)], args := [d] }
  | _ => none }
def ZoneLinesWrongFalsely : Prop := zoneLinesRow.holds Try.pinned (OpenSpec.ofChange zoneLinesWrong)

/-- 'quadrupolelaw03.ZoneSequences': WHATEVER THE INPUT: true; the input reads as it did. -/
def zoneSequencesSpec : ChangeSpec := { name := "zoneSequences", fn := fun _ => fun
  | [d1, d2] => { results := [.lit (.bool true)], args := [d1, d2] }
  | _ => none }
def zoneSequencesRow : OpenClaim := { program := "ytkolpijhgcijbaa", sum := "9163bfe17e6f76abc55ad8c719384f8c10d0d337be0139c1e43f9f348621cc07", func := "quadrupole/quadrupolelaw03.ZoneSequences", spec := "zoneSequences", unfollowed := true, recurses := true, plainKeys := false, apart := false }
def ZoneSequencesSaid : Prop := zoneSequencesRow.holds Try.pinned (OpenSpec.ofChange zoneSequencesSpec)

/-- ITS FALSE NEIGHBOUR: 'it returns false'. Refute it at one input. -/
def zoneSequencesWrong : ChangeSpec := { name := "zoneSequences", fn := fun _ => fun
  | [d1, d2] => { results := [.lit (.bool false)], args := [d1, d2] }
  | _ => none }
def ZoneSequencesWrongFalsely : Prop := zoneSequencesRow.holds Try.pinned (OpenSpec.ofChange zoneSequencesWrong)

/-- 'quadrupolelaw03.ZoneKeeps': WHATEVER THE INPUT: true; the input reads as it did. -/
def zoneKeepsSpec : ChangeSpec := { name := "zoneKeeps", fn := fun _ => fun
  | [d1, d2, d3] => { results := [.lit (.bool true)], args := [d1, d2, d3] }
  | _ => none }
def zoneKeepsRow : OpenClaim := { program := "ytkolpijhgcijbaa", sum := "9163bfe17e6f76abc55ad8c719384f8c10d0d337be0139c1e43f9f348621cc07", func := "quadrupole/quadrupolelaw03.ZoneKeeps", spec := "zoneKeeps", unfollowed := true, recurses := true, plainKeys := false, apart := false }
def ZoneKeepsSaid : Prop := zoneKeepsRow.holds Try.pinned (OpenSpec.ofChange zoneKeepsSpec)

/-- ITS FALSE NEIGHBOUR: 'it returns false'. Refute it at one input. -/
def zoneKeepsWrong : ChangeSpec := { name := "zoneKeeps", fn := fun _ => fun
  | [d1, d2, d3] => { results := [.lit (.bool false)], args := [d1, d2, d3] }
  | _ => none }
def ZoneKeepsWrongFalsely : Prop := zoneKeepsRow.holds Try.pinned (OpenSpec.ofChange zoneKeepsWrong)

/-- 'quadrupolelaw03.ZoneRenames': WHATEVER THE INPUT: true; the input reads as it did. -/
def zoneRenamesSpec : ChangeSpec := { name := "zoneRenames", fn := fun _ => fun
  | [d1, d2, d3] => { results := [.lit (.bool true)], args := [d1, d2, d3] }
  | _ => none }
def zoneRenamesRow : OpenClaim := { program := "ytkolpijhgcijbaa", sum := "9163bfe17e6f76abc55ad8c719384f8c10d0d337be0139c1e43f9f348621cc07", func := "quadrupole/quadrupolelaw03.ZoneRenames", spec := "zoneRenames", unfollowed := true, recurses := true, plainKeys := false, apart := false }
def ZoneRenamesSaid : Prop := zoneRenamesRow.holds Try.pinned (OpenSpec.ofChange zoneRenamesSpec)

/-- ITS FALSE NEIGHBOUR: 'it returns false'. Refute it at one input. -/
def zoneRenamesWrong : ChangeSpec := { name := "zoneRenames", fn := fun _ => fun
  | [d1, d2, d3] => { results := [.lit (.bool false)], args := [d1, d2, d3] }
  | _ => none }
def ZoneRenamesWrongFalsely : Prop := zoneRenamesRow.holds Try.pinned (OpenSpec.ofChange zoneRenamesWrong)

/- THE SECOND FORM. 'bulk': how many values and letters a reading holds, each counted each time it is reached (what is shared counts as often as it is met; a slice's spare places count too). A statement '..UptoSaid' is the law's where the arguments, and the package variables that the reading takes, are together of bulk at most 1048576: NARROWER than '..Said'. Prove '..Said' where nothing that the law and all that it calls make is longer than what came in: it says more and counts as full. Else prove '..UptoSaid'. A law counts once. -/
mutual
def uptoBulk {H : Type} : DataW H → Nat
  | .lit (.string bytes) => bytes.length + 1
  | .lit _ => 1
  | .nil => 1
  | .ptr d => uptoBulk d + 1
  | .slice elems spare => uptoBulkAll elems + uptoBulkAll spare + 1
  | .agg parts => uptoBulkAll parts + 1
  | .iface _ d => uptoBulk d + 1
  | .map entries => uptoBulkEntries entries + 1
  | .held _ => 1
def uptoBulkAll {H : Type} : List (DataW H) → Nat
  | [] => 0
  | d :: r => uptoBulk d + uptoBulkAll r
def uptoBulkEntries {H : Type} : List (Lit × DataW H) → Nat
  | [] => 0
  | x :: r => uptoBulkEntry x + uptoBulkEntries r
def uptoBulkEntry {H : Type} : Lit × DataW H → Nat
  | (.string bytes, d) => bytes.length + uptoBulk d + 1
  | (_, d) => uptoBulk d + 1
 end
def uptoSmall : (H : Type) → List (DataW H) → Bool := fun _ ds => decide (uptoBulkAll ds ≤ 1048576)
def OpenSpec.upto (s : _root_.Go.ChangeSpec) : _root_.Go.OpenSpec := { _root_.Go.OpenSpec.ofChange s with cond := some uptoSmall }

/-- 'quadrupolelaw03.ZoneSwaps', WHERE WHAT IT READS IS OF BULK AT MOST 1048576: true; the input reads as it did. -/
def zoneSwapsUptoRow : OpenClaim := { program := "ytkolpijhgcijbaa", sum := "9163bfe17e6f76abc55ad8c719384f8c10d0d337be0139c1e43f9f348621cc07", func := "quadrupole/quadrupolelaw03.ZoneSwaps", spec := "zoneSwaps", unfollowed := true, recurses := true, plainKeys := false, apart := false, narrowed := true }
def ZoneSwapsUptoSaid : Prop := zoneSwapsUptoRow.holds Try.pinned (OpenSpec.upto zoneSwapsSpec)

/-- 'quadrupolelaw03.ZoneTraps', WHERE WHAT IT READS IS OF BULK AT MOST 1048576: true; the input reads as it did. -/
def zoneTrapsUptoRow : OpenClaim := { program := "ytkolpijhgcijbaa", sum := "9163bfe17e6f76abc55ad8c719384f8c10d0d337be0139c1e43f9f348621cc07", func := "quadrupole/quadrupolelaw03.ZoneTraps", spec := "zoneTraps", unfollowed := true, recurses := true, plainKeys := false, apart := false, narrowed := true }
def ZoneTrapsUptoSaid : Prop := zoneTrapsUptoRow.holds Try.pinned (OpenSpec.upto zoneTrapsSpec)

/-- 'quadrupolelaw03.ZoneMoves', WHERE WHAT IT READS IS OF BULK AT MOST 1048576: true; the input reads as it did. -/
def zoneMovesUptoRow : OpenClaim := { program := "ytkolpijhgcijbaa", sum := "9163bfe17e6f76abc55ad8c719384f8c10d0d337be0139c1e43f9f348621cc07", func := "quadrupole/quadrupolelaw03.ZoneMoves", spec := "zoneMoves", unfollowed := true, recurses := true, plainKeys := false, apart := false, narrowed := true }
def ZoneMovesUptoSaid : Prop := zoneMovesUptoRow.holds Try.pinned (OpenSpec.upto zoneMovesSpec)

/-- 'quadrupolelaw03.ZonePlans', WHERE WHAT IT READS IS OF BULK AT MOST 1048576: true; the input reads as it did. -/
def zonePlansUptoRow : OpenClaim := { program := "ytkolpijhgcijbaa", sum := "9163bfe17e6f76abc55ad8c719384f8c10d0d337be0139c1e43f9f348621cc07", func := "quadrupole/quadrupolelaw03.ZonePlans", spec := "zonePlans", unfollowed := true, recurses := true, plainKeys := false, apart := false, narrowed := true }
def ZonePlansUptoSaid : Prop := zonePlansUptoRow.holds Try.pinned (OpenSpec.upto zonePlansSpec)

/-- 'quadrupolelaw03.ZoneLess', WHERE WHAT IT READS IS OF BULK AT MOST 1048576: true; the input reads as it did. -/
def zoneLessUptoRow : OpenClaim := { program := "ytkolpijhgcijbaa", sum := "9163bfe17e6f76abc55ad8c719384f8c10d0d337be0139c1e43f9f348621cc07", func := "quadrupole/quadrupolelaw03.ZoneLess", spec := "zoneLess", unfollowed := true, recurses := true, plainKeys := false, apart := false, narrowed := true }
def ZoneLessUptoSaid : Prop := zoneLessUptoRow.holds Try.pinned (OpenSpec.upto zoneLessSpec)

/-- 'quadrupolelaw03.ZoneFar', WHERE WHAT IT READS IS OF BULK AT MOST 1048576: true; the input reads as it did. -/
def zoneFarUptoRow : OpenClaim := { program := "ytkolpijhgcijbaa", sum := "9163bfe17e6f76abc55ad8c719384f8c10d0d337be0139c1e43f9f348621cc07", func := "quadrupole/quadrupolelaw03.ZoneFar", spec := "zoneFar", unfollowed := true, recurses := true, plainKeys := false, apart := false, narrowed := true }
def ZoneFarUptoSaid : Prop := zoneFarUptoRow.holds Try.pinned (OpenSpec.upto zoneFarSpec)

/-- 'quadrupolelaw03.ZoneReaches', WHERE WHAT IT READS IS OF BULK AT MOST 1048576: true; the input reads as it did. -/
def zoneReachesUptoRow : OpenClaim := { program := "ytkolpijhgcijbaa", sum := "9163bfe17e6f76abc55ad8c719384f8c10d0d337be0139c1e43f9f348621cc07", func := "quadrupole/quadrupolelaw03.ZoneReaches", spec := "zoneReaches", unfollowed := true, recurses := true, plainKeys := false, apart := false, narrowed := true }
def ZoneReachesUptoSaid : Prop := zoneReachesUptoRow.holds Try.pinned (OpenSpec.upto zoneReachesSpec)

/-- 'quadrupolelaw03.ZoneBacks', WHERE WHAT IT READS IS OF BULK AT MOST 1048576: true; the input reads as it did. -/
def zoneBacksUptoRow : OpenClaim := { program := "ytkolpijhgcijbaa", sum := "9163bfe17e6f76abc55ad8c719384f8c10d0d337be0139c1e43f9f348621cc07", func := "quadrupole/quadrupolelaw03.ZoneBacks", spec := "zoneBacks", unfollowed := true, recurses := true, plainKeys := false, apart := false, narrowed := true }
def ZoneBacksUptoSaid : Prop := zoneBacksUptoRow.holds Try.pinned (OpenSpec.upto zoneBacksSpec)

/-- 'quadrupolelaw03.ZoneOver', WHERE WHAT IT READS IS OF BULK AT MOST 1048576: true; the input reads as it did. -/
def zoneOverUptoRow : OpenClaim := { program := "ytkolpijhgcijbaa", sum := "9163bfe17e6f76abc55ad8c719384f8c10d0d337be0139c1e43f9f348621cc07", func := "quadrupole/quadrupolelaw03.ZoneOver", spec := "zoneOver", unfollowed := true, recurses := true, plainKeys := false, apart := false, narrowed := true }
def ZoneOverUptoSaid : Prop := zoneOverUptoRow.holds Try.pinned (OpenSpec.upto zoneOverSpec)

/-- 'quadrupolelaw03.ZoneLines', WHERE WHAT IT READS IS OF BULK AT MOST 1048576: true; the input reads as it did. -/
def zoneLinesUptoRow : OpenClaim := { program := "ytkolpijhgcijbaa", sum := "9163bfe17e6f76abc55ad8c719384f8c10d0d337be0139c1e43f9f348621cc07", func := "quadrupole/quadrupolelaw03.ZoneLines", spec := "zoneLines", unfollowed := true, recurses := true, plainKeys := false, apart := false, narrowed := true }
def ZoneLinesUptoSaid : Prop := zoneLinesUptoRow.holds Try.pinned (OpenSpec.upto zoneLinesSpec)

/-- 'quadrupolelaw03.ZoneSequences', WHERE WHAT IT READS IS OF BULK AT MOST 1048576: true; the input reads as it did. -/
def zoneSequencesUptoRow : OpenClaim := { program := "ytkolpijhgcijbaa", sum := "9163bfe17e6f76abc55ad8c719384f8c10d0d337be0139c1e43f9f348621cc07", func := "quadrupole/quadrupolelaw03.ZoneSequences", spec := "zoneSequences", unfollowed := true, recurses := true, plainKeys := false, apart := false, narrowed := true }
def ZoneSequencesUptoSaid : Prop := zoneSequencesUptoRow.holds Try.pinned (OpenSpec.upto zoneSequencesSpec)

/-- 'quadrupolelaw03.ZoneKeeps', WHERE WHAT IT READS IS OF BULK AT MOST 1048576: true; the input reads as it did. -/
def zoneKeepsUptoRow : OpenClaim := { program := "ytkolpijhgcijbaa", sum := "9163bfe17e6f76abc55ad8c719384f8c10d0d337be0139c1e43f9f348621cc07", func := "quadrupole/quadrupolelaw03.ZoneKeeps", spec := "zoneKeeps", unfollowed := true, recurses := true, plainKeys := false, apart := false, narrowed := true }
def ZoneKeepsUptoSaid : Prop := zoneKeepsUptoRow.holds Try.pinned (OpenSpec.upto zoneKeepsSpec)

/-- 'quadrupolelaw03.ZoneRenames', WHERE WHAT IT READS IS OF BULK AT MOST 1048576: true; the input reads as it did. -/
def zoneRenamesUptoRow : OpenClaim := { program := "ytkolpijhgcijbaa", sum := "9163bfe17e6f76abc55ad8c719384f8c10d0d337be0139c1e43f9f348621cc07", func := "quadrupole/quadrupolelaw03.ZoneRenames", spec := "zoneRenames", unfollowed := true, recurses := true, plainKeys := false, apart := false, narrowed := true }
def ZoneRenamesUptoSaid : Prop := zoneRenamesUptoRow.holds Try.pinned (OpenSpec.upto zoneRenamesSpec)

end Rows
end Go.Proofs.Ytkolpijhgcijbaa
