/-
  DERIVED. GIVEN WITH THE SEED: THE CARDS: each row of YtndniceeibflcaaGreatDoorRows.lean that lists a variable, with what it lists TIED to the program's text (the seventh form; the later family's looks); each row that meets fmt, with fmt's text TOLD by the authors' own Lean function (tested against real Go, not proved from fmt's source: count such statements apart). THE CARD IS WHAT COUNTS. Prove the row's statement (the work); the ties are given (YtndniceeibflcaaGreatDoorTie.lean); close each card by the builder's one call (the guide's Derived/Test/ToyasCard.lean, 'card_holds'). Laid BY PROGRAM, IN A SANDBOX (cutbox-door.mjs). By AI agents, Wed Nov 11 2026. No macro, syntax, notation, axiom, sorry.
-/
import Derived.Test.YtndniceeibflcaaGreatDoorRows
import GoSem.ClaimSeven
namespace Go.Proofs.YtndniceeibflcaaGreatDoor
namespace Rows

/-- THE TIED CARD OF 'quadrupoletop.TopLog'. -/
def topLogCard : Claim7 := { stood := { row := topLogRow, standIns := [], harness := (true, "aa03d57e40d7f46a321b7a338959e31570b187a828c7cad4885241d6f19c00d7"), looks := true }, kinds := [], alts := [], laidByText := true, laidKinds := [.data, .data, .data, .data, .handle, .sentinel, .sentinel, .pinned], laidTests := true, laidLooks := .later }
def TopLogCardSaid : Prop := Claim7.holds Tryz.pinned (.plain (OpenSpec.ofChange topLogSpec)) topLogCard

/-- THE TIED CARD OF 'quadrupoletop.TopReplay'. -/
def topReplayCard : Claim7 := { stood := { row := topReplayRow, standIns := [], harness := (true, "aa03d57e40d7f46a321b7a338959e31570b187a828c7cad4885241d6f19c00d7"), looks := true }, kinds := [], alts := [], laidByText := true, laidKinds := [.data, .data, .data, .data, .handle, .sentinel, .sentinel, .pinned], laidTests := true, laidLooks := .later }
def TopReplayCardSaid : Prop := Claim7.holds Tryz.pinned (.plain (OpenSpec.ofChange topReplaySpec)) topReplayCard

/-- THE TIED CARD OF 'quadrupolelaw09.MachineSums'. -/
def machineSumsCard : Claim7 := { stood := { row := machineSumsRow, standIns := [], harness := (true, "aa03d57e40d7f46a321b7a338959e31570b187a828c7cad4885241d6f19c00d7"), looks := true }, kinds := [], alts := [], laidByText := true, laidKinds := [.data, .data, .data, .data, .handle, .sentinel, .sentinel, .pinned], laidTests := true, laidLooks := .later }
def MachineSumsCardSaid : Prop := Claim7.holds Tryz.pinned (.plain (OpenSpec.ofChange machineSumsSpec)) machineSumsCard

/-- THE TIED CARD OF 'quadrupolelaw09.MachineRuns'. -/
def machineRunsCard : Claim7 := { stood := { row := machineRunsRow, standIns := [], harness := (true, "aa03d57e40d7f46a321b7a338959e31570b187a828c7cad4885241d6f19c00d7"), looks := true }, kinds := [], alts := [], laidByText := true, laidKinds := [.data, .data, .data, .data, .handle, .sentinel, .sentinel, .pinned], laidTests := true, laidLooks := .later }
def MachineRunsCardSaid : Prop := Claim7.holds Tryz.pinned (.plain (OpenSpec.ofChange machineRunsSpec)) machineRunsCard

/-- THE TIED CARD OF 'quadrupolelaw09.MachineOrders'. -/
def machineOrdersCard : Claim7 := { stood := { row := machineOrdersRow, standIns := [], harness := (true, "aa03d57e40d7f46a321b7a338959e31570b187a828c7cad4885241d6f19c00d7"), looks := true }, kinds := [], alts := [], laidByText := true, laidKinds := [.data, .data, .data, .data, .handle, .sentinel, .sentinel, .pinned], laidTests := true, laidLooks := .later }
def MachineOrdersCardSaid : Prop := Claim7.holds Tryz.pinned (.plain (OpenSpec.ofChange machineOrdersSpec)) machineOrdersCard

/-- THE TIED CARD OF 'quadrupolelaw09.MachineReads'. -/
def machineReadsCard : Claim7 := { stood := { row := machineReadsRow, standIns := [], harness := (true, "aa03d57e40d7f46a321b7a338959e31570b187a828c7cad4885241d6f19c00d7"), looks := true }, kinds := [], alts := [], laidByText := true, laidKinds := [.data, .data, .data, .data, .handle, .sentinel, .sentinel, .pinned], laidTests := true, laidLooks := .later }
def MachineReadsCardSaid : Prop := Claim7.holds Tryz.pinned (.plain (OpenSpec.ofChange machineReadsSpec)) machineReadsCard

/-- THE TIED CARD OF 'quadrupolelaw09.MachineWrites'. -/
def machineWritesCard : Claim7 := { stood := { row := machineWritesRow, standIns := [], harness := (true, "aa03d57e40d7f46a321b7a338959e31570b187a828c7cad4885241d6f19c00d7"), looks := true }, kinds := [], alts := [], laidByText := true, laidKinds := [.data, .data, .data, .data, .handle, .sentinel, .sentinel, .pinned], laidTests := true, laidLooks := .later }
def MachineWritesCardSaid : Prop := Claim7.holds Tryz.pinned (.plain (OpenSpec.ofChange machineWritesSpec)) machineWritesCard

/-- THE TIED CARD OF 'quadrupolelaw09.MachineMerges'. -/
def machineMergesCard : Claim7 := { stood := { row := machineMergesRow, standIns := [], harness := (true, "aa03d57e40d7f46a321b7a338959e31570b187a828c7cad4885241d6f19c00d7"), looks := true }, kinds := [], alts := [], laidByText := true, laidKinds := [.data, .data, .data, .data, .handle, .sentinel, .sentinel, .pinned], laidTests := true, laidLooks := .later }
def MachineMergesCardSaid : Prop := Claim7.holds Tryz.pinned (.plain (OpenSpec.ofChange machineMergesSpec)) machineMergesCard

/-- THE TIED CARD OF 'quadrupolelaw09.MachineReplays'. -/
def machineReplaysCard : Claim7 := { stood := { row := machineReplaysRow, standIns := [], harness := (true, "aa03d57e40d7f46a321b7a338959e31570b187a828c7cad4885241d6f19c00d7"), looks := true }, kinds := [], alts := [], laidByText := true, laidKinds := [.data, .data, .data, .data, .handle, .sentinel, .sentinel, .pinned], laidTests := true, laidLooks := .later }
def MachineReplaysCardSaid : Prop := Claim7.holds Tryz.pinned (.plain (OpenSpec.ofChange machineReplaysSpec)) machineReplaysCard

/-- THE TIED CARD OF 'quadrupolelaw09.MachineRight'. -/
def machineRightCard : Claim7 := { stood := { row := machineRightRow, standIns := [], harness := (true, "aa03d57e40d7f46a321b7a338959e31570b187a828c7cad4885241d6f19c00d7"), looks := true }, kinds := [], alts := [], laidByText := true, laidKinds := [.data, .data, .data, .data, .handle, .sentinel, .sentinel, .pinned], laidTests := true, laidLooks := .later }
def MachineRightCardSaid : Prop := Claim7.holds Tryz.pinned (.plain (OpenSpec.ofChange machineRightSpec)) machineRightCard

/-- THE TIED CARD OF 'quadrupolelaw09.MachineLeans'. -/
def machineLeansCard : Claim7 := { stood := { row := machineLeansRow, standIns := [], harness := (true, "aa03d57e40d7f46a321b7a338959e31570b187a828c7cad4885241d6f19c00d7"), looks := true }, kinds := [], alts := [], laidByText := true, laidKinds := [.data, .data, .data, .data, .handle, .sentinel, .sentinel, .pinned], laidTests := true, laidLooks := .later }
def MachineLeansCardSaid : Prop := Claim7.holds Tryz.pinned (.plain (OpenSpec.ofChange machineLeansSpec)) machineLeansCard

/-- THE TIED CARD OF 'quadrupolelaw09.MachineAgain'. -/
def machineAgainCard : Claim7 := { stood := { row := machineAgainRow, standIns := [], harness := (true, "aa03d57e40d7f46a321b7a338959e31570b187a828c7cad4885241d6f19c00d7"), looks := true }, kinds := [], alts := [], laidByText := true, laidKinds := [.data, .data, .data, .data, .handle, .sentinel, .sentinel, .pinned], laidTests := true, laidLooks := .later }
def MachineAgainCardSaid : Prop := Claim7.holds Tryz.pinned (.plain (OpenSpec.ofChange machineAgainSpec)) machineAgainCard

/-- THE TIED CARD OF 'quadrupolelaw09.MachineRefuses'. -/
def machineRefusesCard : Claim7 := { stood := { row := machineRefusesRow, standIns := [], harness := (true, "aa03d57e40d7f46a321b7a338959e31570b187a828c7cad4885241d6f19c00d7"), looks := true }, kinds := [], alts := [], laidByText := true, laidKinds := [.data, .data, .data, .data, .handle, .sentinel, .sentinel, .pinned], laidTests := true, laidLooks := .later }
def MachineRefusesCardSaid : Prop := Claim7.holds Tryz.pinned (.plain (OpenSpec.ofChange machineRefusesSpec)) machineRefusesCard

/-- THE TIED CARD OF 'quadrupolelaw09.MachineLeft'. -/
def machineLeftCard : Claim7 := { stood := { row := machineLeftRow, standIns := [], harness := (true, "aa03d57e40d7f46a321b7a338959e31570b187a828c7cad4885241d6f19c00d7"), looks := true }, kinds := [], alts := [], laidByText := true, laidKinds := [.data, .data, .data, .data, .handle, .sentinel, .sentinel, .pinned], laidTests := true, laidLooks := .later }
def MachineLeftCardSaid : Prop := Claim7.holds Tryz.pinned (.plain (OpenSpec.ofChange machineLeftSpec)) machineLeftCard

/-- THE TIED CARD OF 'quadrupolelaw09.MachineNone'. -/
def machineNoneCard : Claim7 := { stood := { row := machineNoneRow, standIns := [], harness := (true, "aa03d57e40d7f46a321b7a338959e31570b187a828c7cad4885241d6f19c00d7"), looks := true }, kinds := [], alts := [], laidByText := true, laidKinds := [.data, .data, .data, .data, .handle, .sentinel, .sentinel, .pinned], laidTests := true, laidLooks := .later }
def MachineNoneCardSaid : Prop := Claim7.holds Tryz.pinned (.plain (OpenSpec.ofChange machineNoneSpec)) machineNoneCard

/-- THE TIED CARD OF 'quadrupoletop.TopMachine'. -/
def topMachineCard : Claim7 := { stood := { row := topMachineRow, standIns := [], harness := (true, "aa03d57e40d7f46a321b7a338959e31570b187a828c7cad4885241d6f19c00d7"), looks := true }, kinds := [], alts := [], laidByText := true, laidKinds := [.data, .data, .data, .data, .handle, .sentinel, .sentinel, .pinned], laidTests := true, laidLooks := .later }
def TopMachineCardSaid : Prop := Claim7.holds Tryz.pinned (.plain (OpenSpec.ofChange topMachineSpec)) topMachineCard

/-- THE SECOND FORM's CARD OF 'quadrupoletop.TopLog'. -/
def topLogUptoCard : Claim7 := { stood := { row := topLogUptoRow, standIns := [], harness := (true, "aa03d57e40d7f46a321b7a338959e31570b187a828c7cad4885241d6f19c00d7"), looks := true }, kinds := [], alts := [], laidByText := true, laidKinds := [.data, .data, .data, .data, .handle, .sentinel, .sentinel, .pinned], laidTests := true, laidLooks := .later }
def TopLogUptoCardSaid : Prop := Claim7.holds Tryz.pinned (.plain (OpenSpec.upto topLogSpec)) topLogUptoCard

/-- THE SECOND FORM's CARD OF 'quadrupoletop.TopReplay'. -/
def topReplayUptoCard : Claim7 := { stood := { row := topReplayUptoRow, standIns := [], harness := (true, "aa03d57e40d7f46a321b7a338959e31570b187a828c7cad4885241d6f19c00d7"), looks := true }, kinds := [], alts := [], laidByText := true, laidKinds := [.data, .data, .data, .data, .handle, .sentinel, .sentinel, .pinned], laidTests := true, laidLooks := .later }
def TopReplayUptoCardSaid : Prop := Claim7.holds Tryz.pinned (.plain (OpenSpec.upto topReplaySpec)) topReplayUptoCard

/-- THE SECOND FORM's CARD OF 'quadrupolelaw09.MachineSums'. -/
def machineSumsUptoCard : Claim7 := { stood := { row := machineSumsUptoRow, standIns := [], harness := (true, "aa03d57e40d7f46a321b7a338959e31570b187a828c7cad4885241d6f19c00d7"), looks := true }, kinds := [], alts := [], laidByText := true, laidKinds := [.data, .data, .data, .data, .handle, .sentinel, .sentinel, .pinned], laidTests := true, laidLooks := .later }
def MachineSumsUptoCardSaid : Prop := Claim7.holds Tryz.pinned (.plain (OpenSpec.upto machineSumsSpec)) machineSumsUptoCard

/-- THE SECOND FORM's CARD OF 'quadrupolelaw09.MachineRuns'. -/
def machineRunsUptoCard : Claim7 := { stood := { row := machineRunsUptoRow, standIns := [], harness := (true, "aa03d57e40d7f46a321b7a338959e31570b187a828c7cad4885241d6f19c00d7"), looks := true }, kinds := [], alts := [], laidByText := true, laidKinds := [.data, .data, .data, .data, .handle, .sentinel, .sentinel, .pinned], laidTests := true, laidLooks := .later }
def MachineRunsUptoCardSaid : Prop := Claim7.holds Tryz.pinned (.plain (OpenSpec.upto machineRunsSpec)) machineRunsUptoCard

/-- THE SECOND FORM's CARD OF 'quadrupolelaw09.MachineOrders'. -/
def machineOrdersUptoCard : Claim7 := { stood := { row := machineOrdersUptoRow, standIns := [], harness := (true, "aa03d57e40d7f46a321b7a338959e31570b187a828c7cad4885241d6f19c00d7"), looks := true }, kinds := [], alts := [], laidByText := true, laidKinds := [.data, .data, .data, .data, .handle, .sentinel, .sentinel, .pinned], laidTests := true, laidLooks := .later }
def MachineOrdersUptoCardSaid : Prop := Claim7.holds Tryz.pinned (.plain (OpenSpec.upto machineOrdersSpec)) machineOrdersUptoCard

/-- THE SECOND FORM's CARD OF 'quadrupolelaw09.MachineReads'. -/
def machineReadsUptoCard : Claim7 := { stood := { row := machineReadsUptoRow, standIns := [], harness := (true, "aa03d57e40d7f46a321b7a338959e31570b187a828c7cad4885241d6f19c00d7"), looks := true }, kinds := [], alts := [], laidByText := true, laidKinds := [.data, .data, .data, .data, .handle, .sentinel, .sentinel, .pinned], laidTests := true, laidLooks := .later }
def MachineReadsUptoCardSaid : Prop := Claim7.holds Tryz.pinned (.plain (OpenSpec.upto machineReadsSpec)) machineReadsUptoCard

/-- THE SECOND FORM's CARD OF 'quadrupolelaw09.MachineWrites'. -/
def machineWritesUptoCard : Claim7 := { stood := { row := machineWritesUptoRow, standIns := [], harness := (true, "aa03d57e40d7f46a321b7a338959e31570b187a828c7cad4885241d6f19c00d7"), looks := true }, kinds := [], alts := [], laidByText := true, laidKinds := [.data, .data, .data, .data, .handle, .sentinel, .sentinel, .pinned], laidTests := true, laidLooks := .later }
def MachineWritesUptoCardSaid : Prop := Claim7.holds Tryz.pinned (.plain (OpenSpec.upto machineWritesSpec)) machineWritesUptoCard

/-- THE SECOND FORM's CARD OF 'quadrupolelaw09.MachineMerges'. -/
def machineMergesUptoCard : Claim7 := { stood := { row := machineMergesUptoRow, standIns := [], harness := (true, "aa03d57e40d7f46a321b7a338959e31570b187a828c7cad4885241d6f19c00d7"), looks := true }, kinds := [], alts := [], laidByText := true, laidKinds := [.data, .data, .data, .data, .handle, .sentinel, .sentinel, .pinned], laidTests := true, laidLooks := .later }
def MachineMergesUptoCardSaid : Prop := Claim7.holds Tryz.pinned (.plain (OpenSpec.upto machineMergesSpec)) machineMergesUptoCard

/-- THE SECOND FORM's CARD OF 'quadrupolelaw09.MachineReplays'. -/
def machineReplaysUptoCard : Claim7 := { stood := { row := machineReplaysUptoRow, standIns := [], harness := (true, "aa03d57e40d7f46a321b7a338959e31570b187a828c7cad4885241d6f19c00d7"), looks := true }, kinds := [], alts := [], laidByText := true, laidKinds := [.data, .data, .data, .data, .handle, .sentinel, .sentinel, .pinned], laidTests := true, laidLooks := .later }
def MachineReplaysUptoCardSaid : Prop := Claim7.holds Tryz.pinned (.plain (OpenSpec.upto machineReplaysSpec)) machineReplaysUptoCard

/-- THE SECOND FORM's CARD OF 'quadrupolelaw09.MachineRight'. -/
def machineRightUptoCard : Claim7 := { stood := { row := machineRightUptoRow, standIns := [], harness := (true, "aa03d57e40d7f46a321b7a338959e31570b187a828c7cad4885241d6f19c00d7"), looks := true }, kinds := [], alts := [], laidByText := true, laidKinds := [.data, .data, .data, .data, .handle, .sentinel, .sentinel, .pinned], laidTests := true, laidLooks := .later }
def MachineRightUptoCardSaid : Prop := Claim7.holds Tryz.pinned (.plain (OpenSpec.upto machineRightSpec)) machineRightUptoCard

/-- THE SECOND FORM's CARD OF 'quadrupolelaw09.MachineLeans'. -/
def machineLeansUptoCard : Claim7 := { stood := { row := machineLeansUptoRow, standIns := [], harness := (true, "aa03d57e40d7f46a321b7a338959e31570b187a828c7cad4885241d6f19c00d7"), looks := true }, kinds := [], alts := [], laidByText := true, laidKinds := [.data, .data, .data, .data, .handle, .sentinel, .sentinel, .pinned], laidTests := true, laidLooks := .later }
def MachineLeansUptoCardSaid : Prop := Claim7.holds Tryz.pinned (.plain (OpenSpec.upto machineLeansSpec)) machineLeansUptoCard

/-- THE SECOND FORM's CARD OF 'quadrupolelaw09.MachineAgain'. -/
def machineAgainUptoCard : Claim7 := { stood := { row := machineAgainUptoRow, standIns := [], harness := (true, "aa03d57e40d7f46a321b7a338959e31570b187a828c7cad4885241d6f19c00d7"), looks := true }, kinds := [], alts := [], laidByText := true, laidKinds := [.data, .data, .data, .data, .handle, .sentinel, .sentinel, .pinned], laidTests := true, laidLooks := .later }
def MachineAgainUptoCardSaid : Prop := Claim7.holds Tryz.pinned (.plain (OpenSpec.upto machineAgainSpec)) machineAgainUptoCard

/-- THE SECOND FORM's CARD OF 'quadrupolelaw09.MachineRefuses'. -/
def machineRefusesUptoCard : Claim7 := { stood := { row := machineRefusesUptoRow, standIns := [], harness := (true, "aa03d57e40d7f46a321b7a338959e31570b187a828c7cad4885241d6f19c00d7"), looks := true }, kinds := [], alts := [], laidByText := true, laidKinds := [.data, .data, .data, .data, .handle, .sentinel, .sentinel, .pinned], laidTests := true, laidLooks := .later }
def MachineRefusesUptoCardSaid : Prop := Claim7.holds Tryz.pinned (.plain (OpenSpec.upto machineRefusesSpec)) machineRefusesUptoCard

/-- THE SECOND FORM's CARD OF 'quadrupolelaw09.MachineLeft'. -/
def machineLeftUptoCard : Claim7 := { stood := { row := machineLeftUptoRow, standIns := [], harness := (true, "aa03d57e40d7f46a321b7a338959e31570b187a828c7cad4885241d6f19c00d7"), looks := true }, kinds := [], alts := [], laidByText := true, laidKinds := [.data, .data, .data, .data, .handle, .sentinel, .sentinel, .pinned], laidTests := true, laidLooks := .later }
def MachineLeftUptoCardSaid : Prop := Claim7.holds Tryz.pinned (.plain (OpenSpec.upto machineLeftSpec)) machineLeftUptoCard

/-- THE SECOND FORM's CARD OF 'quadrupolelaw09.MachineNone'. -/
def machineNoneUptoCard : Claim7 := { stood := { row := machineNoneUptoRow, standIns := [], harness := (true, "aa03d57e40d7f46a321b7a338959e31570b187a828c7cad4885241d6f19c00d7"), looks := true }, kinds := [], alts := [], laidByText := true, laidKinds := [.data, .data, .data, .data, .handle, .sentinel, .sentinel, .pinned], laidTests := true, laidLooks := .later }
def MachineNoneUptoCardSaid : Prop := Claim7.holds Tryz.pinned (.plain (OpenSpec.upto machineNoneSpec)) machineNoneUptoCard

/-- THE SECOND FORM's CARD OF 'quadrupoletop.TopMachine'. -/
def topMachineUptoCard : Claim7 := { stood := { row := topMachineUptoRow, standIns := [], harness := (true, "aa03d57e40d7f46a321b7a338959e31570b187a828c7cad4885241d6f19c00d7"), looks := true }, kinds := [], alts := [], laidByText := true, laidKinds := [.data, .data, .data, .data, .handle, .sentinel, .sentinel, .pinned], laidTests := true, laidLooks := .later }
def TopMachineUptoCardSaid : Prop := Claim7.holds Tryz.pinned (.plain (OpenSpec.upto topMachineSpec)) topMachineUptoCard
end Rows
end Go.Proofs.YtndniceeibflcaaGreatDoor
