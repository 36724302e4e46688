/-
  No cell of these rows narrows 'for every input' (looked for: loops, veiled, ifaces, maps, wideKeys, modest, calm, conditions, laid).
  DERIVED. THE GIVEN ROWS OF THIS SEAT. 15 by the template 'for every input the law returns true; each argument reads behind the call as it read before'; 0 by the template 'total and deterministic' (their statements: YtkmbbbemmohmcaaTotals.lean).
  GIVEN WITH THE SEED: the statements are not yours to turn. If you find one false, say at which input.
  Laid BY PROGRAM, IN A SANDBOX (cutbox-rows.mjs): the forced cells as the released guide's own fill.sh prints them over the translation b169770a33dcecd2… (all of the seat's roots in one cut). By AI agents, Wed Nov 11 2026. No macro, syntax, notation, axiom, sorry.
-/
import Derived.Test.YtkmbbbemmohmcaaChecked
import GoSem.Claim
import GoSem.ClaimJoined
import GoSem.ClaimMapViews
import Derived.JoinedTies
import Derived.KernelRfl
namespace Go.Proofs.Ytkmbbbemmohmcaa
/- THE CELL 'sum', in the pinned program and in every row, IS THE sha256 OF THE DUMP (.gsa) THAT YtkmbbbemmohmcaaProg.lean LOADS. Nothing in Lean hashes anything: it is a label: what it is worth is what the hold of that sum in a sandbox is worth. -/
noncomputable def Try.pinned : Pinned := { name := "ytkmbbbemmohmcaa", sum := "b169770a33dcecd21333e7fb56704e714cdb6c077d7c125054b91f242b329eab", checked := Try.checked }
namespace Rows
def none {H : Type} : Left H := { results := [], args := [] }

/-- 'quadrupoletop.TopCircuits': WHATEVER THE INPUT: true; the input reads as it did. -/
def topCircuitsSpec : ChangeSpec := { name := "topCircuits", fn := fun _ => fun
  | [d1, d2, d3] => { results := [.lit (.bool true)], args := [d1, d2, d3] }
  | _ => none }
def topCircuitsRow : OpenClaim := { program := "ytkmbbbemmohmcaa", sum := "b169770a33dcecd21333e7fb56704e714cdb6c077d7c125054b91f242b329eab", func := "quadrupole/quadrupoletop.TopCircuits", spec := "topCircuits", unfollowed := true, recurses := true, apart := false }
def TopCircuitsSaid : Prop := topCircuitsRow.holds Try.pinned (OpenSpec.ofChange topCircuitsSpec)

/-- ITS FALSE NEIGHBOUR: 'it returns false'. Refute it at one input. -/
def topCircuitsWrong : ChangeSpec := { name := "topCircuits", fn := fun _ => fun
  | [d1, d2, d3] => { results := [.lit (.bool false)], args := [d1, d2, d3] }
  | _ => none }
def TopCircuitsWrongFalsely : Prop := topCircuitsRow.holds Try.pinned (OpenSpec.ofChange topCircuitsWrong)

/-- 'quadrupolelaw02.CircuitShort': WHATEVER THE INPUT: true; the input reads as it did. -/
def circuitShortSpec : ChangeSpec := { name := "circuitShort", fn := fun _ => fun
  | [d1, d2] => { results := [.lit (.bool true)], args := [d1, d2] }
  | _ => none }
def circuitShortRow : OpenClaim := { program := "ytkmbbbemmohmcaa", sum := "b169770a33dcecd21333e7fb56704e714cdb6c077d7c125054b91f242b329eab", func := "quadrupole/quadrupolelaw02.CircuitShort", spec := "circuitShort", unfollowed := true, recurses := true, apart := false }
def CircuitShortSaid : Prop := circuitShortRow.holds Try.pinned (OpenSpec.ofChange circuitShortSpec)

/-- ITS FALSE NEIGHBOUR: 'it returns false'. Refute it at one input. -/
def circuitShortWrong : ChangeSpec := { name := "circuitShort", fn := fun _ => fun
  | [d1, d2] => { results := [.lit (.bool false)], args := [d1, d2] }
  | _ => none }
def CircuitShortWrongFalsely : Prop := circuitShortRow.holds Try.pinned (OpenSpec.ofChange circuitShortWrong)

/-- 'quadrupolelaw02.CircuitCommutes': WHATEVER THE INPUT: true; the input reads as it did. -/
def circuitCommutesSpec : ChangeSpec := { name := "circuitCommutes", fn := fun _ => fun
  | [d1, d2] => { results := [.lit (.bool true)], args := [d1, d2] }
  | _ => none }
def circuitCommutesRow : OpenClaim := { program := "ytkmbbbemmohmcaa", sum := "b169770a33dcecd21333e7fb56704e714cdb6c077d7c125054b91f242b329eab", func := "quadrupole/quadrupolelaw02.CircuitCommutes", spec := "circuitCommutes", unfollowed := true, recurses := true, apart := false }
def CircuitCommutesSaid : Prop := circuitCommutesRow.holds Try.pinned (OpenSpec.ofChange circuitCommutesSpec)

/-- ITS FALSE NEIGHBOUR: 'it returns false'. Refute it at one input. -/
def circuitCommutesWrong : ChangeSpec := { name := "circuitCommutes", fn := fun _ => fun
  | [d1, d2] => { results := [.lit (.bool false)], args := [d1, d2] }
  | _ => none }
def CircuitCommutesWrongFalsely : Prop := circuitCommutesRow.holds Try.pinned (OpenSpec.ofChange circuitCommutesWrong)

/-- 'quadrupolelaw02.CircuitFirsts': WHATEVER THE INPUT: true; the input reads as it did. -/
def circuitFirstsSpec : ChangeSpec := { name := "circuitFirsts", fn := fun _ => fun
  | [d1, d2] => { results := [.lit (.bool true)], args := [d1, d2] }
  | _ => none }
def circuitFirstsRow : OpenClaim := { program := "ytkmbbbemmohmcaa", sum := "b169770a33dcecd21333e7fb56704e714cdb6c077d7c125054b91f242b329eab", func := "quadrupole/quadrupolelaw02.CircuitFirsts", spec := "circuitFirsts", unfollowed := true, recurses := true, apart := false }
def CircuitFirstsSaid : Prop := circuitFirstsRow.holds Try.pinned (OpenSpec.ofChange circuitFirstsSpec)

/-- ITS FALSE NEIGHBOUR: 'it returns false'. Refute it at one input. -/
def circuitFirstsWrong : ChangeSpec := { name := "circuitFirsts", fn := fun _ => fun
  | [d1, d2] => { results := [.lit (.bool false)], args := [d1, d2] }
  | _ => none }
def CircuitFirstsWrongFalsely : Prop := circuitFirstsRow.holds Try.pinned (OpenSpec.ofChange circuitFirstsWrong)

/-- 'quadrupolelaw02.CircuitReduces': WHATEVER THE INPUT: true; the input reads as it did. -/
def circuitReducesSpec : ChangeSpec := { name := "circuitReduces", fn := fun _ => fun
  | [d1, d2] => { results := [.lit (.bool true)], args := [d1, d2] }
  | _ => none }
def circuitReducesRow : OpenClaim := { program := "ytkmbbbemmohmcaa", sum := "b169770a33dcecd21333e7fb56704e714cdb6c077d7c125054b91f242b329eab", func := "quadrupole/quadrupolelaw02.CircuitReduces", spec := "circuitReduces", unfollowed := true, recurses := true, apart := false }
def CircuitReducesSaid : Prop := circuitReducesRow.holds Try.pinned (OpenSpec.ofChange circuitReducesSpec)

/-- ITS FALSE NEIGHBOUR: 'it returns false'. Refute it at one input. -/
def circuitReducesWrong : ChangeSpec := { name := "circuitReduces", fn := fun _ => fun
  | [d1, d2] => { results := [.lit (.bool false)], args := [d1, d2] }
  | _ => none }
def CircuitReducesWrongFalsely : Prop := circuitReducesRow.holds Try.pinned (OpenSpec.ofChange circuitReducesWrong)

/-- 'quadrupolelaw02.CircuitAlike': WHATEVER THE INPUT: true; the input reads as it did. -/
def circuitAlikeSpec : ChangeSpec := { name := "circuitAlike", fn := fun _ => fun
  | [d1, d2, d3] => { results := [.lit (.bool true)], args := [d1, d2, d3] }
  | _ => none }
def circuitAlikeRow : OpenClaim := { program := "ytkmbbbemmohmcaa", sum := "b169770a33dcecd21333e7fb56704e714cdb6c077d7c125054b91f242b329eab", func := "quadrupole/quadrupolelaw02.CircuitAlike", spec := "circuitAlike", unfollowed := true, recurses := true, apart := false }
def CircuitAlikeSaid : Prop := circuitAlikeRow.holds Try.pinned (OpenSpec.ofChange circuitAlikeSpec)

/-- ITS FALSE NEIGHBOUR: 'it returns false'. Refute it at one input. -/
def circuitAlikeWrong : ChangeSpec := { name := "circuitAlike", fn := fun _ => fun
  | [d1, d2, d3] => { results := [.lit (.bool false)], args := [d1, d2, d3] }
  | _ => none }
def CircuitAlikeWrongFalsely : Prop := circuitAlikeRow.holds Try.pinned (OpenSpec.ofChange circuitAlikeWrong)

/-- 'quadrupolelaw02.CircuitNames': WHATEVER THE INPUT: true; the input reads as it did. -/
def circuitNamesSpec : ChangeSpec := { name := "circuitNames", fn := fun _ => fun
  | [d1, d2] => { results := [.lit (.bool true)], args := [d1, d2] }
  | _ => none }
def circuitNamesRow : OpenClaim := { program := "ytkmbbbemmohmcaa", sum := "b169770a33dcecd21333e7fb56704e714cdb6c077d7c125054b91f242b329eab", func := "quadrupole/quadrupolelaw02.CircuitNames", spec := "circuitNames", unfollowed := true, recurses := true, apart := false }
def CircuitNamesSaid : Prop := circuitNamesRow.holds Try.pinned (OpenSpec.ofChange circuitNamesSpec)

/-- ITS FALSE NEIGHBOUR: 'it returns false'. Refute it at one input. -/
def circuitNamesWrong : ChangeSpec := { name := "circuitNames", fn := fun _ => fun
  | [d1, d2] => { results := [.lit (.bool false)], args := [d1, d2] }
  | _ => none }
def CircuitNamesWrongFalsely : Prop := circuitNamesRow.holds Try.pinned (OpenSpec.ofChange circuitNamesWrong)

/-- 'quadrupolelaw02.CircuitCounts': WHATEVER THE INPUT: true; the input reads as it did. -/
def circuitCountsSpec : ChangeSpec := { name := "circuitCounts", fn := fun _ => fun
  | [d1, d2] => { results := [.lit (.bool true)], args := [d1, d2] }
  | _ => none }
def circuitCountsRow : OpenClaim := { program := "ytkmbbbemmohmcaa", sum := "b169770a33dcecd21333e7fb56704e714cdb6c077d7c125054b91f242b329eab", func := "quadrupole/quadrupolelaw02.CircuitCounts", spec := "circuitCounts", unfollowed := true, recurses := true, apart := false }
def CircuitCountsSaid : Prop := circuitCountsRow.holds Try.pinned (OpenSpec.ofChange circuitCountsSpec)

/-- ITS FALSE NEIGHBOUR: 'it returns false'. Refute it at one input. -/
def circuitCountsWrong : ChangeSpec := { name := "circuitCounts", fn := fun _ => fun
  | [d1, d2] => { results := [.lit (.bool false)], args := [d1, d2] }
  | _ => none }
def CircuitCountsWrongFalsely : Prop := circuitCountsRow.holds Try.pinned (OpenSpec.ofChange circuitCountsWrong)

/-- 'quadrupolelaw02.CircuitLayers': WHATEVER THE INPUT: true; the input reads as it did. -/
def circuitLayersSpec : ChangeSpec := { name := "circuitLayers", fn := fun _ => fun
  | [d1, d2] => { results := [.lit (.bool true)], args := [d1, d2] }
  | _ => none }
def circuitLayersRow : OpenClaim := { program := "ytkmbbbemmohmcaa", sum := "b169770a33dcecd21333e7fb56704e714cdb6c077d7c125054b91f242b329eab", func := "quadrupole/quadrupolelaw02.CircuitLayers", spec := "circuitLayers", unfollowed := true, recurses := true, apart := false }
def CircuitLayersSaid : Prop := circuitLayersRow.holds Try.pinned (OpenSpec.ofChange circuitLayersSpec)

/-- ITS FALSE NEIGHBOUR: 'it returns false'. Refute it at one input. -/
def circuitLayersWrong : ChangeSpec := { name := "circuitLayers", fn := fun _ => fun
  | [d1, d2] => { results := [.lit (.bool false)], args := [d1, d2] }
  | _ => none }
def CircuitLayersWrongFalsely : Prop := circuitLayersRow.holds Try.pinned (OpenSpec.ofChange circuitLayersWrong)

/-- 'quadrupolelaw02.CircuitPairs': WHATEVER THE INPUT: true; the input reads as it did. -/
def circuitPairsSpec : ChangeSpec := { name := "circuitPairs", fn := fun _ => fun
  | [d1, d2, d3] => { results := [.lit (.bool true)], args := [d1, d2, d3] }
  | _ => none }
def circuitPairsRow : OpenClaim := { program := "ytkmbbbemmohmcaa", sum := "b169770a33dcecd21333e7fb56704e714cdb6c077d7c125054b91f242b329eab", func := "quadrupole/quadrupolelaw02.CircuitPairs", spec := "circuitPairs", unfollowed := true, recurses := true, apart := false }
def CircuitPairsSaid : Prop := circuitPairsRow.holds Try.pinned (OpenSpec.ofChange circuitPairsSpec)

/-- ITS FALSE NEIGHBOUR: 'it returns false'. Refute it at one input. -/
def circuitPairsWrong : ChangeSpec := { name := "circuitPairs", fn := fun _ => fun
  | [d1, d2, d3] => { results := [.lit (.bool false)], args := [d1, d2, d3] }
  | _ => none }
def CircuitPairsWrongFalsely : Prop := circuitPairsRow.holds Try.pinned (OpenSpec.ofChange circuitPairsWrong)

/-- 'quadrupolelaw02.CircuitEquals': WHATEVER THE INPUT: true; the input reads as it did. -/
def circuitEqualsSpec : ChangeSpec := { name := "circuitEquals", fn := fun _ => fun
  | [d1, d2, d3] => { results := [.lit (.bool true)], args := [d1, d2, d3] }
  | _ => none }
def circuitEqualsRow : OpenClaim := { program := "ytkmbbbemmohmcaa", sum := "b169770a33dcecd21333e7fb56704e714cdb6c077d7c125054b91f242b329eab", func := "quadrupole/quadrupolelaw02.CircuitEquals", spec := "circuitEquals", unfollowed := true, recurses := true, apart := false }
def CircuitEqualsSaid : Prop := circuitEqualsRow.holds Try.pinned (OpenSpec.ofChange circuitEqualsSpec)

/-- ITS FALSE NEIGHBOUR: 'it returns false'. Refute it at one input. -/
def circuitEqualsWrong : ChangeSpec := { name := "circuitEquals", fn := fun _ => fun
  | [d1, d2, d3] => { results := [.lit (.bool false)], args := [d1, d2, d3] }
  | _ => none }
def CircuitEqualsWrongFalsely : Prop := circuitEqualsRow.holds Try.pinned (OpenSpec.ofChange circuitEqualsWrong)

/-- 'quadrupolelaw02.CircuitInverses': WHATEVER THE INPUT: true; the input reads as it did. -/
def circuitInversesSpec : ChangeSpec := { name := "circuitInverses", fn := fun _ => fun
  | [d1, d2] => { results := [.lit (.bool true)], args := [d1, d2] }
  | _ => none }
def circuitInversesRow : OpenClaim := { program := "ytkmbbbemmohmcaa", sum := "b169770a33dcecd21333e7fb56704e714cdb6c077d7c125054b91f242b329eab", func := "quadrupole/quadrupolelaw02.CircuitInverses", spec := "circuitInverses", unfollowed := true, recurses := true, apart := false }
def CircuitInversesSaid : Prop := circuitInversesRow.holds Try.pinned (OpenSpec.ofChange circuitInversesSpec)

/-- ITS FALSE NEIGHBOUR: 'it returns false'. Refute it at one input. -/
def circuitInversesWrong : ChangeSpec := { name := "circuitInverses", fn := fun _ => fun
  | [d1, d2] => { results := [.lit (.bool false)], args := [d1, d2] }
  | _ => none }
def CircuitInversesWrongFalsely : Prop := circuitInversesRow.holds Try.pinned (OpenSpec.ofChange circuitInversesWrong)

/-- 'quadrupolelaw02.CircuitRenames': WHATEVER THE INPUT: true; the input reads as it did. -/
def circuitRenamesSpec : ChangeSpec := { name := "circuitRenames", fn := fun _ => fun
  | [d1, d2, d3] => { results := [.lit (.bool true)], args := [d1, d2, d3] }
  | _ => none }
def circuitRenamesRow : OpenClaim := { program := "ytkmbbbemmohmcaa", sum := "b169770a33dcecd21333e7fb56704e714cdb6c077d7c125054b91f242b329eab", func := "quadrupole/quadrupolelaw02.CircuitRenames", spec := "circuitRenames", unfollowed := true, recurses := true, apart := false }
def CircuitRenamesSaid : Prop := circuitRenamesRow.holds Try.pinned (OpenSpec.ofChange circuitRenamesSpec)

/-- ITS FALSE NEIGHBOUR: 'it returns false'. Refute it at one input. -/
def circuitRenamesWrong : ChangeSpec := { name := "circuitRenames", fn := fun _ => fun
  | [d1, d2, d3] => { results := [.lit (.bool false)], args := [d1, d2, d3] }
  | _ => none }
def CircuitRenamesWrongFalsely : Prop := circuitRenamesRow.holds Try.pinned (OpenSpec.ofChange circuitRenamesWrong)

/-- 'quadrupolelaw02.CircuitJoins': WHATEVER THE INPUT: true; the input reads as it did. -/
def circuitJoinsSpec : ChangeSpec := { name := "circuitJoins", fn := fun _ => fun
  | [d1, d2, d3] => { results := [.lit (.bool true)], args := [d1, d2, d3] }
  | _ => none }
def circuitJoinsRow : OpenClaim := { program := "ytkmbbbemmohmcaa", sum := "b169770a33dcecd21333e7fb56704e714cdb6c077d7c125054b91f242b329eab", func := "quadrupole/quadrupolelaw02.CircuitJoins", spec := "circuitJoins", unfollowed := true, recurses := true, apart := false }
def CircuitJoinsSaid : Prop := circuitJoinsRow.holds Try.pinned (OpenSpec.ofChange circuitJoinsSpec)

/-- ITS FALSE NEIGHBOUR: 'it returns false'. Refute it at one input. -/
def circuitJoinsWrong : ChangeSpec := { name := "circuitJoins", fn := fun _ => fun
  | [d1, d2, d3] => { results := [.lit (.bool false)], args := [d1, d2, d3] }
  | _ => none }
def CircuitJoinsWrongFalsely : Prop := circuitJoinsRow.holds Try.pinned (OpenSpec.ofChange circuitJoinsWrong)

/-- 'quadrupolelaw02.CircuitExchanges': WHATEVER THE INPUT: true; the input reads as it did. -/
def circuitExchangesSpec : ChangeSpec := { name := "circuitExchanges", fn := fun _ => fun
  | [d1, d2, d3] => { results := [.lit (.bool true)], args := [d1, d2, d3] }
  | _ => none }
def circuitExchangesRow : OpenClaim := { program := "ytkmbbbemmohmcaa", sum := "b169770a33dcecd21333e7fb56704e714cdb6c077d7c125054b91f242b329eab", func := "quadrupole/quadrupolelaw02.CircuitExchanges", spec := "circuitExchanges", unfollowed := true, recurses := true, apart := false }
def CircuitExchangesSaid : Prop := circuitExchangesRow.holds Try.pinned (OpenSpec.ofChange circuitExchangesSpec)

/-- ITS FALSE NEIGHBOUR: 'it returns false'. Refute it at one input. -/
def circuitExchangesWrong : ChangeSpec := { name := "circuitExchanges", fn := fun _ => fun
  | [d1, d2, d3] => { results := [.lit (.bool false)], args := [d1, d2, d3] }
  | _ => none }
def CircuitExchangesWrongFalsely : Prop := circuitExchangesRow.holds Try.pinned (OpenSpec.ofChange circuitExchangesWrong)

/- THE SECOND FORM. 'bulk': how many values and letters a reading holds, each counted each time it is reached (what is shared counts as often as it is met; a slice's spare places count too). A statement '..UptoSaid' is the law's where the arguments, and the package variables that the reading takes, are together of bulk at most 1048576: NARROWER than '..Said'. Prove '..Said' where nothing that the law and all that it calls make is longer than what came in: it says more and counts as full. Else prove '..UptoSaid'. A law counts once. -/
mutual
def uptoBulk {H : Type} : DataW H → Nat
  | .lit (.string bytes) => bytes.length + 1
  | .lit _ => 1
  | .nil => 1
  | .ptr d => uptoBulk d + 1
  | .slice elems spare => uptoBulkAll elems + uptoBulkAll spare + 1
  | .agg parts => uptoBulkAll parts + 1
  | .iface _ d => uptoBulk d + 1
  | .map entries => uptoBulkEntries entries + 1
  | .held _ => 1
def uptoBulkAll {H : Type} : List (DataW H) → Nat
  | [] => 0
  | d :: r => uptoBulk d + uptoBulkAll r
def uptoBulkEntries {H : Type} : List (Lit × DataW H) → Nat
  | [] => 0
  | x :: r => uptoBulkEntry x + uptoBulkEntries r
def uptoBulkEntry {H : Type} : Lit × DataW H → Nat
  | (.string bytes, d) => bytes.length + uptoBulk d + 1
  | (_, d) => uptoBulk d + 1
 end
def uptoSmall : (H : Type) → List (DataW H) → Bool := fun _ ds => decide (uptoBulkAll ds ≤ 1048576)
def OpenSpec.upto (s : _root_.Go.ChangeSpec) : _root_.Go.OpenSpec := { _root_.Go.OpenSpec.ofChange s with cond := some uptoSmall }

/-- 'quadrupoletop.TopCircuits', WHERE WHAT IT READS IS OF BULK AT MOST 1048576: true; the input reads as it did. -/
def topCircuitsUptoRow : OpenClaim := { program := "ytkmbbbemmohmcaa", sum := "b169770a33dcecd21333e7fb56704e714cdb6c077d7c125054b91f242b329eab", func := "quadrupole/quadrupoletop.TopCircuits", spec := "topCircuits", unfollowed := true, recurses := true, apart := false, narrowed := true }
def TopCircuitsUptoSaid : Prop := topCircuitsUptoRow.holds Try.pinned (OpenSpec.upto topCircuitsSpec)

/-- 'quadrupolelaw02.CircuitShort', WHERE WHAT IT READS IS OF BULK AT MOST 1048576: true; the input reads as it did. -/
def circuitShortUptoRow : OpenClaim := { program := "ytkmbbbemmohmcaa", sum := "b169770a33dcecd21333e7fb56704e714cdb6c077d7c125054b91f242b329eab", func := "quadrupole/quadrupolelaw02.CircuitShort", spec := "circuitShort", unfollowed := true, recurses := true, apart := false, narrowed := true }
def CircuitShortUptoSaid : Prop := circuitShortUptoRow.holds Try.pinned (OpenSpec.upto circuitShortSpec)

/-- 'quadrupolelaw02.CircuitCommutes', WHERE WHAT IT READS IS OF BULK AT MOST 1048576: true; the input reads as it did. -/
def circuitCommutesUptoRow : OpenClaim := { program := "ytkmbbbemmohmcaa", sum := "b169770a33dcecd21333e7fb56704e714cdb6c077d7c125054b91f242b329eab", func := "quadrupole/quadrupolelaw02.CircuitCommutes", spec := "circuitCommutes", unfollowed := true, recurses := true, apart := false, narrowed := true }
def CircuitCommutesUptoSaid : Prop := circuitCommutesUptoRow.holds Try.pinned (OpenSpec.upto circuitCommutesSpec)

/-- 'quadrupolelaw02.CircuitFirsts', WHERE WHAT IT READS IS OF BULK AT MOST 1048576: true; the input reads as it did. -/
def circuitFirstsUptoRow : OpenClaim := { program := "ytkmbbbemmohmcaa", sum := "b169770a33dcecd21333e7fb56704e714cdb6c077d7c125054b91f242b329eab", func := "quadrupole/quadrupolelaw02.CircuitFirsts", spec := "circuitFirsts", unfollowed := true, recurses := true, apart := false, narrowed := true }
def CircuitFirstsUptoSaid : Prop := circuitFirstsUptoRow.holds Try.pinned (OpenSpec.upto circuitFirstsSpec)

/-- 'quadrupolelaw02.CircuitReduces', WHERE WHAT IT READS IS OF BULK AT MOST 1048576: true; the input reads as it did. -/
def circuitReducesUptoRow : OpenClaim := { program := "ytkmbbbemmohmcaa", sum := "b169770a33dcecd21333e7fb56704e714cdb6c077d7c125054b91f242b329eab", func := "quadrupole/quadrupolelaw02.CircuitReduces", spec := "circuitReduces", unfollowed := true, recurses := true, apart := false, narrowed := true }
def CircuitReducesUptoSaid : Prop := circuitReducesUptoRow.holds Try.pinned (OpenSpec.upto circuitReducesSpec)

/-- 'quadrupolelaw02.CircuitAlike', WHERE WHAT IT READS IS OF BULK AT MOST 1048576: true; the input reads as it did. -/
def circuitAlikeUptoRow : OpenClaim := { program := "ytkmbbbemmohmcaa", sum := "b169770a33dcecd21333e7fb56704e714cdb6c077d7c125054b91f242b329eab", func := "quadrupole/quadrupolelaw02.CircuitAlike", spec := "circuitAlike", unfollowed := true, recurses := true, apart := false, narrowed := true }
def CircuitAlikeUptoSaid : Prop := circuitAlikeUptoRow.holds Try.pinned (OpenSpec.upto circuitAlikeSpec)

/-- 'quadrupolelaw02.CircuitNames', WHERE WHAT IT READS IS OF BULK AT MOST 1048576: true; the input reads as it did. -/
def circuitNamesUptoRow : OpenClaim := { program := "ytkmbbbemmohmcaa", sum := "b169770a33dcecd21333e7fb56704e714cdb6c077d7c125054b91f242b329eab", func := "quadrupole/quadrupolelaw02.CircuitNames", spec := "circuitNames", unfollowed := true, recurses := true, apart := false, narrowed := true }
def CircuitNamesUptoSaid : Prop := circuitNamesUptoRow.holds Try.pinned (OpenSpec.upto circuitNamesSpec)

/-- 'quadrupolelaw02.CircuitCounts', WHERE WHAT IT READS IS OF BULK AT MOST 1048576: true; the input reads as it did. -/
def circuitCountsUptoRow : OpenClaim := { program := "ytkmbbbemmohmcaa", sum := "b169770a33dcecd21333e7fb56704e714cdb6c077d7c125054b91f242b329eab", func := "quadrupole/quadrupolelaw02.CircuitCounts", spec := "circuitCounts", unfollowed := true, recurses := true, apart := false, narrowed := true }
def CircuitCountsUptoSaid : Prop := circuitCountsUptoRow.holds Try.pinned (OpenSpec.upto circuitCountsSpec)

/-- 'quadrupolelaw02.CircuitLayers', WHERE WHAT IT READS IS OF BULK AT MOST 1048576: true; the input reads as it did. -/
def circuitLayersUptoRow : OpenClaim := { program := "ytkmbbbemmohmcaa", sum := "b169770a33dcecd21333e7fb56704e714cdb6c077d7c125054b91f242b329eab", func := "quadrupole/quadrupolelaw02.CircuitLayers", spec := "circuitLayers", unfollowed := true, recurses := true, apart := false, narrowed := true }
def CircuitLayersUptoSaid : Prop := circuitLayersUptoRow.holds Try.pinned (OpenSpec.upto circuitLayersSpec)

/-- 'quadrupolelaw02.CircuitPairs', WHERE WHAT IT READS IS OF BULK AT MOST 1048576: true; the input reads as it did. -/
def circuitPairsUptoRow : OpenClaim := { program := "ytkmbbbemmohmcaa", sum := "b169770a33dcecd21333e7fb56704e714cdb6c077d7c125054b91f242b329eab", func := "quadrupole/quadrupolelaw02.CircuitPairs", spec := "circuitPairs", unfollowed := true, recurses := true, apart := false, narrowed := true }
def CircuitPairsUptoSaid : Prop := circuitPairsUptoRow.holds Try.pinned (OpenSpec.upto circuitPairsSpec)

/-- 'quadrupolelaw02.CircuitEquals', WHERE WHAT IT READS IS OF BULK AT MOST 1048576: true; the input reads as it did. -/
def circuitEqualsUptoRow : OpenClaim := { program := "ytkmbbbemmohmcaa", sum := "b169770a33dcecd21333e7fb56704e714cdb6c077d7c125054b91f242b329eab", func := "quadrupole/quadrupolelaw02.CircuitEquals", spec := "circuitEquals", unfollowed := true, recurses := true, apart := false, narrowed := true }
def CircuitEqualsUptoSaid : Prop := circuitEqualsUptoRow.holds Try.pinned (OpenSpec.upto circuitEqualsSpec)

/-- 'quadrupolelaw02.CircuitInverses', WHERE WHAT IT READS IS OF BULK AT MOST 1048576: true; the input reads as it did. -/
def circuitInversesUptoRow : OpenClaim := { program := "ytkmbbbemmohmcaa", sum := "b169770a33dcecd21333e7fb56704e714cdb6c077d7c125054b91f242b329eab", func := "quadrupole/quadrupolelaw02.CircuitInverses", spec := "circuitInverses", unfollowed := true, recurses := true, apart := false, narrowed := true }
def CircuitInversesUptoSaid : Prop := circuitInversesUptoRow.holds Try.pinned (OpenSpec.upto circuitInversesSpec)

/-- 'quadrupolelaw02.CircuitRenames', WHERE WHAT IT READS IS OF BULK AT MOST 1048576: true; the input reads as it did. -/
def circuitRenamesUptoRow : OpenClaim := { program := "ytkmbbbemmohmcaa", sum := "b169770a33dcecd21333e7fb56704e714cdb6c077d7c125054b91f242b329eab", func := "quadrupole/quadrupolelaw02.CircuitRenames", spec := "circuitRenames", unfollowed := true, recurses := true, apart := false, narrowed := true }
def CircuitRenamesUptoSaid : Prop := circuitRenamesUptoRow.holds Try.pinned (OpenSpec.upto circuitRenamesSpec)

/-- 'quadrupolelaw02.CircuitJoins', WHERE WHAT IT READS IS OF BULK AT MOST 1048576: true; the input reads as it did. -/
def circuitJoinsUptoRow : OpenClaim := { program := "ytkmbbbemmohmcaa", sum := "b169770a33dcecd21333e7fb56704e714cdb6c077d7c125054b91f242b329eab", func := "quadrupole/quadrupolelaw02.CircuitJoins", spec := "circuitJoins", unfollowed := true, recurses := true, apart := false, narrowed := true }
def CircuitJoinsUptoSaid : Prop := circuitJoinsUptoRow.holds Try.pinned (OpenSpec.upto circuitJoinsSpec)

/-- 'quadrupolelaw02.CircuitExchanges', WHERE WHAT IT READS IS OF BULK AT MOST 1048576: true; the input reads as it did. -/
def circuitExchangesUptoRow : OpenClaim := { program := "ytkmbbbemmohmcaa", sum := "b169770a33dcecd21333e7fb56704e714cdb6c077d7c125054b91f242b329eab", func := "quadrupole/quadrupolelaw02.CircuitExchanges", spec := "circuitExchanges", unfollowed := true, recurses := true, apart := false, narrowed := true }
def CircuitExchangesUptoSaid : Prop := circuitExchangesUptoRow.holds Try.pinned (OpenSpec.upto circuitExchangesSpec)

end Rows
end Go.Proofs.Ytkmbbbemmohmcaa
