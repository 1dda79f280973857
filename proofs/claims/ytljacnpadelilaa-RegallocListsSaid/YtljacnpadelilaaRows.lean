/-
  No cell of these rows narrows 'for every input' (looked for: loops, veiled, ifaces, maps, wideKeys, modest, calm, conditions, laid).
  DERIVED. THE GIVEN ROWS OF THIS SEAT. 21 by the template 'for every input the law returns true; each argument reads behind the call as it read before'; 0 by the template 'total and deterministic' (their statements: YtljacnpadelilaaTotals.lean).
  GIVEN WITH THE SEED: the statements are not yours to turn. If you find one false, say at which input.
  Laid BY PROGRAM, IN A SANDBOX (cutbox-rows.mjs): the forced cells as the released guide's own fill.sh prints them over the translation a3b2c91c2e986f21… (all of the seat's roots in one cut). By AI agents, Wed Nov 11 2026. No macro, syntax, notation, axiom, sorry.
-/
import Derived.Test.YtljacnpadelilaaChecked
import GoSem.Claim
import GoSem.ClaimJoined
import GoSem.ClaimMapViews
import Derived.JoinedTies
import Derived.KernelRfl
namespace Go.Proofs.Ytljacnpadelilaa
/- THE CELL 'sum', in the pinned program and in every row, IS THE sha256 OF THE DUMP (.gsa) THAT YtljacnpadelilaaProg.lean LOADS. Nothing in Lean hashes anything: it is a label: what it is worth is what the hold of that sum in a sandbox is worth. -/
noncomputable def Try.pinned : Pinned := { name := "ytljacnpadelilaa", sum := "a3b2c91c2e986f21fd7a0f61ecf6bc3ea4ee8ca570d9c7b25ca6660edcfea6eb", checked := Try.checked }
namespace Rows
def none {H : Type} : Left H := { results := [], args := [] }

/-- 'ontimelaw20.RegallocColors': WHATEVER THE INPUT: true; the input reads as it did. -/
def regallocColorsSpec : ChangeSpec := { name := "regallocColors", fn := fun _ => fun
  | [d1, d2] => { results := [.lit (.bool true)], args := [d1, d2] }
  | _ => none }
def regallocColorsRow : OpenClaim := { program := "ytljacnpadelilaa", sum := "a3b2c91c2e986f21fd7a0f61ecf6bc3ea4ee8ca570d9c7b25ca6660edcfea6eb", func := "ontime/ontimelaw20.RegallocColors", spec := "regallocColors", apart := false }
def RegallocColorsSaid : Prop := regallocColorsRow.holds Try.pinned (OpenSpec.ofChange regallocColorsSpec)

/-- ITS FALSE NEIGHBOUR: 'it returns false'. Refute it at one input. -/
def regallocColorsWrong : ChangeSpec := { name := "regallocColors", fn := fun _ => fun
  | [d1, d2] => { results := [.lit (.bool false)], args := [d1, d2] }
  | _ => none }
def RegallocColorsWrongFalsely : Prop := regallocColorsRow.holds Try.pinned (OpenSpec.ofChange regallocColorsWrong)

/-- 'ontimelaw20.RegallocProper': WHATEVER THE INPUT: true; the input reads as it did. -/
def regallocProperSpec : ChangeSpec := { name := "regallocProper", fn := fun _ => fun
  | [d1, d2] => { results := [.lit (.bool true)], args := [d1, d2] }
  | _ => none }
def regallocProperRow : OpenClaim := { program := "ytljacnpadelilaa", sum := "a3b2c91c2e986f21fd7a0f61ecf6bc3ea4ee8ca570d9c7b25ca6660edcfea6eb", func := "ontime/ontimelaw20.RegallocProper", spec := "regallocProper", apart := false }
def RegallocProperSaid : Prop := regallocProperRow.holds Try.pinned (OpenSpec.ofChange regallocProperSpec)

/-- ITS FALSE NEIGHBOUR: 'it returns false'. Refute it at one input. -/
def regallocProperWrong : ChangeSpec := { name := "regallocProper", fn := fun _ => fun
  | [d1, d2] => { results := [.lit (.bool false)], args := [d1, d2] }
  | _ => none }
def RegallocProperWrongFalsely : Prop := regallocProperRow.holds Try.pinned (OpenSpec.ofChange regallocProperWrong)

/-- 'ontimelaw20.RegallocFew': WHATEVER THE INPUT: true; the input reads as it did. -/
def regallocFewSpec : ChangeSpec := { name := "regallocFew", fn := fun _ => fun
  | [d] => { results := [.lit (.bool true)], args := [d] }
  | _ => none }
def regallocFewRow : OpenClaim := { program := "ytljacnpadelilaa", sum := "a3b2c91c2e986f21fd7a0f61ecf6bc3ea4ee8ca570d9c7b25ca6660edcfea6eb", func := "ontime/ontimelaw20.RegallocFew", spec := "regallocFew", apart := false }
def RegallocFewSaid : Prop := regallocFewRow.holds Try.pinned (OpenSpec.ofChange regallocFewSpec)

/-- ITS FALSE NEIGHBOUR: 'it returns false'. Refute it at one input. -/
def regallocFewWrong : ChangeSpec := { name := "regallocFew", fn := fun _ => fun
  | [d] => { results := [.lit (.bool false)], args := [d] }
  | _ => none }
def RegallocFewWrongFalsely : Prop := regallocFewRow.holds Try.pinned (OpenSpec.ofChange regallocFewWrong)

/-- 'ontimelaw20.RegallocLists': WHATEVER THE INPUT: true; the input reads as it did. -/
def regallocListsSpec : ChangeSpec := { name := "regallocLists", fn := fun _ => fun
  | [d1, d2] => { results := [.lit (.bool true)], args := [d1, d2] }
  | _ => none }
def regallocListsRow : OpenClaim := { program := "ytljacnpadelilaa", sum := "a3b2c91c2e986f21fd7a0f61ecf6bc3ea4ee8ca570d9c7b25ca6660edcfea6eb", func := "ontime/ontimelaw20.RegallocLists", spec := "regallocLists", apart := false }
def RegallocListsSaid : Prop := regallocListsRow.holds Try.pinned (OpenSpec.ofChange regallocListsSpec)

/-- ITS FALSE NEIGHBOUR: 'it returns false'. Refute it at one input. -/
def regallocListsWrong : ChangeSpec := { name := "regallocLists", fn := fun _ => fun
  | [d1, d2] => { results := [.lit (.bool false)], args := [d1, d2] }
  | _ => none }
def RegallocListsWrongFalsely : Prop := regallocListsRow.holds Try.pinned (OpenSpec.ofChange regallocListsWrong)

/-- 'ontimelaw19.LivenessSets': WHATEVER THE INPUT: true; the input reads as it did. -/
def livenessSetsSpec : ChangeSpec := { name := "livenessSets", fn := fun _ => fun
  | [d] => { results := [.lit (.bool true)], args := [d] }
  | _ => none }
def livenessSetsRow : OpenClaim := { program := "ytljacnpadelilaa", sum := "a3b2c91c2e986f21fd7a0f61ecf6bc3ea4ee8ca570d9c7b25ca6660edcfea6eb", func := "ontime/ontimelaw19.LivenessSets", spec := "livenessSets", unfollowed := true, recurses := true, apart := false }
def LivenessSetsSaid : Prop := livenessSetsRow.holds Try.pinned (OpenSpec.ofChange livenessSetsSpec)

/-- ITS FALSE NEIGHBOUR: 'it returns false'. Refute it at one input. -/
def livenessSetsWrong : ChangeSpec := { name := "livenessSets", fn := fun _ => fun
  | [d] => { results := [.lit (.bool false)], args := [d] }
  | _ => none }
def LivenessSetsWrongFalsely : Prop := livenessSetsRow.holds Try.pinned (OpenSpec.ofChange livenessSetsWrong)

/-- 'ontimelaw19.LivenessInterference': WHATEVER THE INPUT: true; the input reads as it did. -/
def livenessInterferenceSpec : ChangeSpec := { name := "livenessInterference", fn := fun _ => fun
  | [d] => { results := [.lit (.bool true)], args := [d] }
  | _ => none }
def livenessInterferenceRow : OpenClaim := { program := "ytljacnpadelilaa", sum := "a3b2c91c2e986f21fd7a0f61ecf6bc3ea4ee8ca570d9c7b25ca6660edcfea6eb", func := "ontime/ontimelaw19.LivenessInterference", spec := "livenessInterference", unfollowed := true, recurses := true, apart := false }
def LivenessInterferenceSaid : Prop := livenessInterferenceRow.holds Try.pinned (OpenSpec.ofChange livenessInterferenceSpec)

/-- ITS FALSE NEIGHBOUR: 'it returns false'. Refute it at one input. -/
def livenessInterferenceWrong : ChangeSpec := { name := "livenessInterference", fn := fun _ => fun
  | [d] => { results := [.lit (.bool false)], args := [d] }
  | _ => none }
def LivenessInterferenceWrongFalsely : Prop := livenessInterferenceRow.holds Try.pinned (OpenSpec.ofChange livenessInterferenceWrong)

/-- 'ontimelaw19.LivenessEquations': WHATEVER THE INPUT: true; the input reads as it did. -/
def livenessEquationsSpec : ChangeSpec := { name := "livenessEquations", fn := fun _ => fun
  | [d] => { results := [.lit (.bool true)], args := [d] }
  | _ => none }
def livenessEquationsRow : OpenClaim := { program := "ytljacnpadelilaa", sum := "a3b2c91c2e986f21fd7a0f61ecf6bc3ea4ee8ca570d9c7b25ca6660edcfea6eb", func := "ontime/ontimelaw19.LivenessEquations", spec := "livenessEquations", unfollowed := true, recurses := true, apart := false }
def LivenessEquationsSaid : Prop := livenessEquationsRow.holds Try.pinned (OpenSpec.ofChange livenessEquationsSpec)

/-- ITS FALSE NEIGHBOUR: 'it returns false'. Refute it at one input. -/
def livenessEquationsWrong : ChangeSpec := { name := "livenessEquations", fn := fun _ => fun
  | [d] => { results := [.lit (.bool false)], args := [d] }
  | _ => none }
def LivenessEquationsWrongFalsely : Prop := livenessEquationsRow.holds Try.pinned (OpenSpec.ofChange livenessEquationsWrong)

/-- 'ontimelaw19.LivenessOverwrites': WHATEVER THE INPUT: true; the input reads as it did. -/
def livenessOverwritesSpec : ChangeSpec := { name := "livenessOverwrites", fn := fun _ => fun
  | [d1, d2, d3, d4] => { results := [.lit (.bool true)], args := [d1, d2, d3, d4] }
  | _ => none }
def livenessOverwritesRow : OpenClaim := { program := "ytljacnpadelilaa", sum := "a3b2c91c2e986f21fd7a0f61ecf6bc3ea4ee8ca570d9c7b25ca6660edcfea6eb", func := "ontime/ontimelaw19.LivenessOverwrites", spec := "livenessOverwrites", inPlace := ["slices.overlaps[ontime/ir.Ins]"], unfollowed := true, recurses := true, apart := false }
def LivenessOverwritesSaid : Prop := livenessOverwritesRow.holds Try.pinned (OpenSpec.ofChange livenessOverwritesSpec)

/-- ITS FALSE NEIGHBOUR: 'it returns false'. Refute it at one input. -/
def livenessOverwritesWrong : ChangeSpec := { name := "livenessOverwrites", fn := fun _ => fun
  | [d1, d2, d3, d4] => { results := [.lit (.bool false)], args := [d1, d2, d3, d4] }
  | _ => none }
def LivenessOverwritesWrongFalsely : Prop := livenessOverwritesRow.holds Try.pinned (OpenSpec.ofChange livenessOverwritesWrong)

/-- 'ontimelaw19.LivenessBounds': WHATEVER THE INPUT: true; the input reads as it did. -/
def livenessBoundsSpec : ChangeSpec := { name := "livenessBounds", fn := fun _ => fun
  | [d1, d2] => { results := [.lit (.bool true)], args := [d1, d2] }
  | _ => none }
def livenessBoundsRow : OpenClaim := { program := "ytljacnpadelilaa", sum := "a3b2c91c2e986f21fd7a0f61ecf6bc3ea4ee8ca570d9c7b25ca6660edcfea6eb", func := "ontime/ontimelaw19.LivenessBounds", spec := "livenessBounds", unfollowed := true, recurses := true, apart := false }
def LivenessBoundsSaid : Prop := livenessBoundsRow.holds Try.pinned (OpenSpec.ofChange livenessBoundsSpec)

/-- ITS FALSE NEIGHBOUR: 'it returns false'. Refute it at one input. -/
def livenessBoundsWrong : ChangeSpec := { name := "livenessBounds", fn := fun _ => fun
  | [d1, d2] => { results := [.lit (.bool false)], args := [d1, d2] }
  | _ => none }
def LivenessBoundsWrongFalsely : Prop := livenessBoundsRow.holds Try.pinned (OpenSpec.ofChange livenessBoundsWrong)

/-- 'ontimelaw19.LivenessValues': WHATEVER THE INPUT: true; the input reads as it did. -/
def livenessValuesSpec : ChangeSpec := { name := "livenessValues", fn := fun _ => fun
  | [d] => { results := [.lit (.bool true)], args := [d] }
  | _ => none }
def livenessValuesRow : OpenClaim := { program := "ytljacnpadelilaa", sum := "a3b2c91c2e986f21fd7a0f61ecf6bc3ea4ee8ca570d9c7b25ca6660edcfea6eb", func := "ontime/ontimelaw19.LivenessValues", spec := "livenessValues", unfollowed := true, recurses := true, apart := false }
def LivenessValuesSaid : Prop := livenessValuesRow.holds Try.pinned (OpenSpec.ofChange livenessValuesSpec)

/-- ITS FALSE NEIGHBOUR: 'it returns false'. Refute it at one input. -/
def livenessValuesWrong : ChangeSpec := { name := "livenessValues", fn := fun _ => fun
  | [d] => { results := [.lit (.bool false)], args := [d] }
  | _ => none }
def LivenessValuesWrongFalsely : Prop := livenessValuesRow.holds Try.pinned (OpenSpec.ofChange livenessValuesWrong)

/-- 'ontimelaw17.IrValid': WHATEVER THE INPUT: true; the input reads as it did. -/
def irValidSpec : ChangeSpec := { name := "irValid", fn := fun _ => fun
  | [d1, d2] => { results := [.lit (.bool true)], args := [d1, d2] }
  | _ => none }
def irValidRow : OpenClaim := { program := "ytljacnpadelilaa", sum := "a3b2c91c2e986f21fd7a0f61ecf6bc3ea4ee8ca570d9c7b25ca6660edcfea6eb", func := "ontime/ontimelaw17.IrValid", spec := "irValid", unfollowed := true, recurses := true, apart := false }
def IrValidSaid : Prop := irValidRow.holds Try.pinned (OpenSpec.ofChange irValidSpec)

/-- ITS FALSE NEIGHBOUR: 'it returns false'. Refute it at one input. -/
def irValidWrong : ChangeSpec := { name := "irValid", fn := fun _ => fun
  | [d1, d2] => { results := [.lit (.bool false)], args := [d1, d2] }
  | _ => none }
def IrValidWrongFalsely : Prop := irValidRow.holds Try.pinned (OpenSpec.ofChange irValidWrong)

/-- 'ontimelaw17.IrRuns': WHATEVER THE INPUT: true; the input reads as it did. -/
def irRunsSpec : ChangeSpec := { name := "irRuns", fn := fun _ => fun
  | [d1, d2, d3, d4, d5, d6] => { results := [.lit (.bool true)], args := [d1, d2, d3, d4, d5, d6] }
  | _ => none }
def irRunsRow : OpenClaim := { program := "ytljacnpadelilaa", sum := "a3b2c91c2e986f21fd7a0f61ecf6bc3ea4ee8ca570d9c7b25ca6660edcfea6eb", func := "ontime/ontimelaw17.IrRuns", spec := "irRuns", unfollowed := true, recurses := true, apart := false }
def IrRunsSaid : Prop := irRunsRow.holds Try.pinned (OpenSpec.ofChange irRunsSpec)

/-- ITS FALSE NEIGHBOUR: 'it returns false'. Refute it at one input. -/
def irRunsWrong : ChangeSpec := { name := "irRuns", fn := fun _ => fun
  | [d1, d2, d3, d4, d5, d6] => { results := [.lit (.bool false)], args := [d1, d2, d3, d4, d5, d6] }
  | _ => none }
def IrRunsWrongFalsely : Prop := irRunsRow.holds Try.pinned (OpenSpec.ofChange irRunsWrong)

/-- 'ontimelaw17.IrBlocks': WHATEVER THE INPUT: true; the input reads as it did. -/
def irBlocksSpec : ChangeSpec := { name := "irBlocks", fn := fun _ => fun
  | [d1, d2, d3, d4, d5, d6] => { results := [.lit (.bool true)], args := [d1, d2, d3, d4, d5, d6] }
  | _ => none }
def irBlocksRow : OpenClaim := { program := "ytljacnpadelilaa", sum := "a3b2c91c2e986f21fd7a0f61ecf6bc3ea4ee8ca570d9c7b25ca6660edcfea6eb", func := "ontime/ontimelaw17.IrBlocks", spec := "irBlocks", unfollowed := true, recurses := true, apart := false }
def IrBlocksSaid : Prop := irBlocksRow.holds Try.pinned (OpenSpec.ofChange irBlocksSpec)

/-- ITS FALSE NEIGHBOUR: 'it returns false'. Refute it at one input. -/
def irBlocksWrong : ChangeSpec := { name := "irBlocks", fn := fun _ => fun
  | [d1, d2, d3, d4, d5, d6] => { results := [.lit (.bool false)], args := [d1, d2, d3, d4, d5, d6] }
  | _ => none }
def IrBlocksWrongFalsely : Prop := irBlocksRow.holds Try.pinned (OpenSpec.ofChange irBlocksWrong)

/-- 'ontimelaw17.IrFuel': WHATEVER THE INPUT: true; the input reads as it did. -/
def irFuelSpec : ChangeSpec := { name := "irFuel", fn := fun _ => fun
  | [d1, d2, d3, d4, d5, d6] => { results := [.lit (.bool true)], args := [d1, d2, d3, d4, d5, d6] }
  | _ => none }
def irFuelRow : OpenClaim := { program := "ytljacnpadelilaa", sum := "a3b2c91c2e986f21fd7a0f61ecf6bc3ea4ee8ca570d9c7b25ca6660edcfea6eb", func := "ontime/ontimelaw17.IrFuel", spec := "irFuel", unfollowed := true, recurses := true, apart := false }
def IrFuelSaid : Prop := irFuelRow.holds Try.pinned (OpenSpec.ofChange irFuelSpec)

/-- ITS FALSE NEIGHBOUR: 'it returns false'. Refute it at one input. -/
def irFuelWrong : ChangeSpec := { name := "irFuel", fn := fun _ => fun
  | [d1, d2, d3, d4, d5, d6] => { results := [.lit (.bool false)], args := [d1, d2, d3, d4, d5, d6] }
  | _ => none }
def IrFuelWrongFalsely : Prop := irFuelRow.holds Try.pinned (OpenSpec.ofChange irFuelWrong)

/-- 'ontimelaw17.IrRenumbers': WHATEVER THE INPUT: true; the input reads as it did. -/
def irRenumbersSpec : ChangeSpec := { name := "irRenumbers", fn := fun _ => fun
  | [d1, d2, d3, d4, d5, d6] => { results := [.lit (.bool true)], args := [d1, d2, d3, d4, d5, d6] }
  | _ => none }
def irRenumbersRow : OpenClaim := { program := "ytljacnpadelilaa", sum := "a3b2c91c2e986f21fd7a0f61ecf6bc3ea4ee8ca570d9c7b25ca6660edcfea6eb", func := "ontime/ontimelaw17.IrRenumbers", spec := "irRenumbers", unfollowed := true, recurses := true, apart := false }
def IrRenumbersSaid : Prop := irRenumbersRow.holds Try.pinned (OpenSpec.ofChange irRenumbersSpec)

/-- ITS FALSE NEIGHBOUR: 'it returns false'. Refute it at one input. -/
def irRenumbersWrong : ChangeSpec := { name := "irRenumbers", fn := fun _ => fun
  | [d1, d2, d3, d4, d5, d6] => { results := [.lit (.bool false)], args := [d1, d2, d3, d4, d5, d6] }
  | _ => none }
def IrRenumbersWrongFalsely : Prop := irRenumbersRow.holds Try.pinned (OpenSpec.ofChange irRenumbersWrong)

/-- 'ontimelaw17.IrOperands': WHATEVER THE INPUT: true; the input reads as it did. -/
def irOperandsSpec : ChangeSpec := { name := "irOperands", fn := fun _ => fun
  | [d1, d2] => { results := [.lit (.bool true)], args := [d1, d2] }
  | _ => none }
def irOperandsRow : OpenClaim := { program := "ytljacnpadelilaa", sum := "a3b2c91c2e986f21fd7a0f61ecf6bc3ea4ee8ca570d9c7b25ca6660edcfea6eb", func := "ontime/ontimelaw17.IrOperands", spec := "irOperands", unfollowed := true, recurses := true, apart := false }
def IrOperandsSaid : Prop := irOperandsRow.holds Try.pinned (OpenSpec.ofChange irOperandsSpec)

/-- ITS FALSE NEIGHBOUR: 'it returns false'. Refute it at one input. -/
def irOperandsWrong : ChangeSpec := { name := "irOperands", fn := fun _ => fun
  | [d1, d2] => { results := [.lit (.bool false)], args := [d1, d2] }
  | _ => none }
def IrOperandsWrongFalsely : Prop := irOperandsRow.holds Try.pinned (OpenSpec.ofChange irOperandsWrong)

/-- 'ontimelaw17.IrEqual': WHATEVER THE INPUT: true; the input reads as it did. -/
def irEqualSpec : ChangeSpec := { name := "irEqual", fn := fun _ => fun
  | [d1, d2, d3, d4] => { results := [.lit (.bool true)], args := [d1, d2, d3, d4] }
  | _ => none }
def irEqualRow : OpenClaim := { program := "ytljacnpadelilaa", sum := "a3b2c91c2e986f21fd7a0f61ecf6bc3ea4ee8ca570d9c7b25ca6660edcfea6eb", func := "ontime/ontimelaw17.IrEqual", spec := "irEqual", unfollowed := true, recurses := true, apart := false }
def IrEqualSaid : Prop := irEqualRow.holds Try.pinned (OpenSpec.ofChange irEqualSpec)

/-- ITS FALSE NEIGHBOUR: 'it returns false'. Refute it at one input. -/
def irEqualWrong : ChangeSpec := { name := "irEqual", fn := fun _ => fun
  | [d1, d2, d3, d4] => { results := [.lit (.bool false)], args := [d1, d2, d3, d4] }
  | _ => none }
def IrEqualWrongFalsely : Prop := irEqualRow.holds Try.pinned (OpenSpec.ofChange irEqualWrong)

/-- 'ontimelaw20.RegallocAllocates': WHATEVER THE INPUT: true; the input reads as it did. -/
def regallocAllocatesSpec : ChangeSpec := { name := "regallocAllocates", fn := fun _ => fun
  | [d] => { results := [.lit (.bool true)], args := [d] }
  | _ => none }
def regallocAllocatesRow : OpenClaim := { program := "ytljacnpadelilaa", sum := "a3b2c91c2e986f21fd7a0f61ecf6bc3ea4ee8ca570d9c7b25ca6660edcfea6eb", func := "ontime/ontimelaw20.RegallocAllocates", spec := "regallocAllocates", unfollowed := true, recurses := true, apart := false }
def RegallocAllocatesSaid : Prop := regallocAllocatesRow.holds Try.pinned (OpenSpec.ofChange regallocAllocatesSpec)

/-- ITS FALSE NEIGHBOUR: 'it returns false'. Refute it at one input. -/
def regallocAllocatesWrong : ChangeSpec := { name := "regallocAllocates", fn := fun _ => fun
  | [d] => { results := [.lit (.bool false)], args := [d] }
  | _ => none }
def RegallocAllocatesWrongFalsely : Prop := regallocAllocatesRow.holds Try.pinned (OpenSpec.ofChange regallocAllocatesWrong)

/-- 'ontimelaw20.RegallocSound': WHATEVER THE INPUT: true; the input reads as it did. -/
def regallocSoundSpec : ChangeSpec := { name := "regallocSound", fn := fun _ => fun
  | [d] => { results := [.lit (.bool true)], args := [d] }
  | _ => none }
def regallocSoundRow : OpenClaim := { program := "ytljacnpadelilaa", sum := "a3b2c91c2e986f21fd7a0f61ecf6bc3ea4ee8ca570d9c7b25ca6660edcfea6eb", func := "ontime/ontimelaw20.RegallocSound", spec := "regallocSound", unfollowed := true, recurses := true, apart := false }
def RegallocSoundSaid : Prop := regallocSoundRow.holds Try.pinned (OpenSpec.ofChange regallocSoundSpec)

/-- ITS FALSE NEIGHBOUR: 'it returns false'. Refute it at one input. -/
def regallocSoundWrong : ChangeSpec := { name := "regallocSound", fn := fun _ => fun
  | [d] => { results := [.lit (.bool false)], args := [d] }
  | _ => none }
def RegallocSoundWrongFalsely : Prop := regallocSoundRow.holds Try.pinned (OpenSpec.ofChange regallocSoundWrong)

/-- 'ontimelaw19.LivenessMerges': WHATEVER THE INPUT: true; the input reads as it did. -/
def livenessMergesSpec : ChangeSpec := { name := "livenessMerges", fn := fun _ => fun
  | [d1, d2, d3] => { results := [.lit (.bool true)], args := [d1, d2, d3] }
  | _ => none }
def livenessMergesRow : OpenClaim := { program := "ytljacnpadelilaa", sum := "a3b2c91c2e986f21fd7a0f61ecf6bc3ea4ee8ca570d9c7b25ca6660edcfea6eb", func := "ontime/ontimelaw19.LivenessMerges", spec := "livenessMerges", unfollowed := true, recurses := true, apart := false }
def LivenessMergesSaid : Prop := livenessMergesRow.holds Try.pinned (OpenSpec.ofChange livenessMergesSpec)

/-- ITS FALSE NEIGHBOUR: 'it returns false'. Refute it at one input. -/
def livenessMergesWrong : ChangeSpec := { name := "livenessMerges", fn := fun _ => fun
  | [d1, d2, d3] => { results := [.lit (.bool false)], args := [d1, d2, d3] }
  | _ => none }
def LivenessMergesWrongFalsely : Prop := livenessMergesRow.holds Try.pinned (OpenSpec.ofChange livenessMergesWrong)

/-- 'ontimelaw20.RegallocRuns': WHATEVER THE INPUT: true; the input reads as it did. -/
def regallocRunsSpec : ChangeSpec := { name := "regallocRuns", fn := fun _ => fun
  | [d1, d2, d3, d4, d5] => { results := [.lit (.bool true)], args := [d1, d2, d3, d4, d5] }
  | _ => none }
def regallocRunsRow : OpenClaim := { program := "ytljacnpadelilaa", sum := "a3b2c91c2e986f21fd7a0f61ecf6bc3ea4ee8ca570d9c7b25ca6660edcfea6eb", func := "ontime/ontimelaw20.RegallocRuns", spec := "regallocRuns", unfollowed := true, recurses := true, apart := false }
def RegallocRunsSaid : Prop := regallocRunsRow.holds Try.pinned (OpenSpec.ofChange regallocRunsSpec)

/-- ITS FALSE NEIGHBOUR: 'it returns false'. Refute it at one input. -/
def regallocRunsWrong : ChangeSpec := { name := "regallocRuns", fn := fun _ => fun
  | [d1, d2, d3, d4, d5] => { results := [.lit (.bool false)], args := [d1, d2, d3, d4, d5] }
  | _ => none }
def RegallocRunsWrongFalsely : Prop := regallocRunsRow.holds Try.pinned (OpenSpec.ofChange regallocRunsWrong)

/- THE SECOND FORM. 'bulk': how many values and letters a reading holds, each counted each time it is reached (what is shared counts as often as it is met; a slice's spare places count too). A statement '..UptoSaid' is the law's where the arguments, and the package variables that the reading takes, are together of bulk at most 1048576: NARROWER than '..Said'. Prove '..Said' where nothing that the law and all that it calls make is longer than what came in: it says more and counts as full. Else prove '..UptoSaid'. A law counts once. -/
mutual
def uptoBulk {H : Type} : DataW H → Nat
  | .lit (.string bytes) => bytes.length + 1
  | .lit _ => 1
  | .nil => 1
  | .ptr d => uptoBulk d + 1
  | .slice elems spare => uptoBulkAll elems + uptoBulkAll spare + 1
  | .agg parts => uptoBulkAll parts + 1
  | .iface _ d => uptoBulk d + 1
  | .map entries => uptoBulkEntries entries + 1
  | .held _ => 1
def uptoBulkAll {H : Type} : List (DataW H) → Nat
  | [] => 0
  | d :: r => uptoBulk d + uptoBulkAll r
def uptoBulkEntries {H : Type} : List (Lit × DataW H) → Nat
  | [] => 0
  | x :: r => uptoBulkEntry x + uptoBulkEntries r
def uptoBulkEntry {H : Type} : Lit × DataW H → Nat
  | (.string bytes, d) => bytes.length + uptoBulk d + 1
  | (_, d) => uptoBulk d + 1
 end
def uptoSmall : (H : Type) → List (DataW H) → Bool := fun _ ds => decide (uptoBulkAll ds ≤ 1048576)
def OpenSpec.upto (s : _root_.Go.ChangeSpec) : _root_.Go.OpenSpec := { _root_.Go.OpenSpec.ofChange s with cond := some uptoSmall }

/-- 'ontimelaw20.RegallocColors', WHERE WHAT IT READS IS OF BULK AT MOST 1048576: true; the input reads as it did. -/
def regallocColorsUptoRow : OpenClaim := { program := "ytljacnpadelilaa", sum := "a3b2c91c2e986f21fd7a0f61ecf6bc3ea4ee8ca570d9c7b25ca6660edcfea6eb", func := "ontime/ontimelaw20.RegallocColors", spec := "regallocColors", apart := false, narrowed := true }
def RegallocColorsUptoSaid : Prop := regallocColorsUptoRow.holds Try.pinned (OpenSpec.upto regallocColorsSpec)

/-- 'ontimelaw20.RegallocProper', WHERE WHAT IT READS IS OF BULK AT MOST 1048576: true; the input reads as it did. -/
def regallocProperUptoRow : OpenClaim := { program := "ytljacnpadelilaa", sum := "a3b2c91c2e986f21fd7a0f61ecf6bc3ea4ee8ca570d9c7b25ca6660edcfea6eb", func := "ontime/ontimelaw20.RegallocProper", spec := "regallocProper", apart := false, narrowed := true }
def RegallocProperUptoSaid : Prop := regallocProperUptoRow.holds Try.pinned (OpenSpec.upto regallocProperSpec)

/-- 'ontimelaw20.RegallocFew', WHERE WHAT IT READS IS OF BULK AT MOST 1048576: true; the input reads as it did. -/
def regallocFewUptoRow : OpenClaim := { program := "ytljacnpadelilaa", sum := "a3b2c91c2e986f21fd7a0f61ecf6bc3ea4ee8ca570d9c7b25ca6660edcfea6eb", func := "ontime/ontimelaw20.RegallocFew", spec := "regallocFew", apart := false, narrowed := true }
def RegallocFewUptoSaid : Prop := regallocFewUptoRow.holds Try.pinned (OpenSpec.upto regallocFewSpec)

/-- 'ontimelaw20.RegallocLists', WHERE WHAT IT READS IS OF BULK AT MOST 1048576: true; the input reads as it did. -/
def regallocListsUptoRow : OpenClaim := { program := "ytljacnpadelilaa", sum := "a3b2c91c2e986f21fd7a0f61ecf6bc3ea4ee8ca570d9c7b25ca6660edcfea6eb", func := "ontime/ontimelaw20.RegallocLists", spec := "regallocLists", apart := false, narrowed := true }
def RegallocListsUptoSaid : Prop := regallocListsUptoRow.holds Try.pinned (OpenSpec.upto regallocListsSpec)

/-- 'ontimelaw19.LivenessSets', WHERE WHAT IT READS IS OF BULK AT MOST 1048576: true; the input reads as it did. -/
def livenessSetsUptoRow : OpenClaim := { program := "ytljacnpadelilaa", sum := "a3b2c91c2e986f21fd7a0f61ecf6bc3ea4ee8ca570d9c7b25ca6660edcfea6eb", func := "ontime/ontimelaw19.LivenessSets", spec := "livenessSets", unfollowed := true, recurses := true, apart := false, narrowed := true }
def LivenessSetsUptoSaid : Prop := livenessSetsUptoRow.holds Try.pinned (OpenSpec.upto livenessSetsSpec)

/-- 'ontimelaw19.LivenessInterference', WHERE WHAT IT READS IS OF BULK AT MOST 1048576: true; the input reads as it did. -/
def livenessInterferenceUptoRow : OpenClaim := { program := "ytljacnpadelilaa", sum := "a3b2c91c2e986f21fd7a0f61ecf6bc3ea4ee8ca570d9c7b25ca6660edcfea6eb", func := "ontime/ontimelaw19.LivenessInterference", spec := "livenessInterference", unfollowed := true, recurses := true, apart := false, narrowed := true }
def LivenessInterferenceUptoSaid : Prop := livenessInterferenceUptoRow.holds Try.pinned (OpenSpec.upto livenessInterferenceSpec)

/-- 'ontimelaw19.LivenessEquations', WHERE WHAT IT READS IS OF BULK AT MOST 1048576: true; the input reads as it did. -/
def livenessEquationsUptoRow : OpenClaim := { program := "ytljacnpadelilaa", sum := "a3b2c91c2e986f21fd7a0f61ecf6bc3ea4ee8ca570d9c7b25ca6660edcfea6eb", func := "ontime/ontimelaw19.LivenessEquations", spec := "livenessEquations", unfollowed := true, recurses := true, apart := false, narrowed := true }
def LivenessEquationsUptoSaid : Prop := livenessEquationsUptoRow.holds Try.pinned (OpenSpec.upto livenessEquationsSpec)

/-- 'ontimelaw19.LivenessOverwrites', WHERE WHAT IT READS IS OF BULK AT MOST 1048576: true; the input reads as it did. -/
def livenessOverwritesUptoRow : OpenClaim := { program := "ytljacnpadelilaa", sum := "a3b2c91c2e986f21fd7a0f61ecf6bc3ea4ee8ca570d9c7b25ca6660edcfea6eb", func := "ontime/ontimelaw19.LivenessOverwrites", spec := "livenessOverwrites", inPlace := ["slices.overlaps[ontime/ir.Ins]"], unfollowed := true, recurses := true, apart := false, narrowed := true }
def LivenessOverwritesUptoSaid : Prop := livenessOverwritesUptoRow.holds Try.pinned (OpenSpec.upto livenessOverwritesSpec)

/-- 'ontimelaw19.LivenessBounds', WHERE WHAT IT READS IS OF BULK AT MOST 1048576: true; the input reads as it did. -/
def livenessBoundsUptoRow : OpenClaim := { program := "ytljacnpadelilaa", sum := "a3b2c91c2e986f21fd7a0f61ecf6bc3ea4ee8ca570d9c7b25ca6660edcfea6eb", func := "ontime/ontimelaw19.LivenessBounds", spec := "livenessBounds", unfollowed := true, recurses := true, apart := false, narrowed := true }
def LivenessBoundsUptoSaid : Prop := livenessBoundsUptoRow.holds Try.pinned (OpenSpec.upto livenessBoundsSpec)

/-- 'ontimelaw19.LivenessValues', WHERE WHAT IT READS IS OF BULK AT MOST 1048576: true; the input reads as it did. -/
def livenessValuesUptoRow : OpenClaim := { program := "ytljacnpadelilaa", sum := "a3b2c91c2e986f21fd7a0f61ecf6bc3ea4ee8ca570d9c7b25ca6660edcfea6eb", func := "ontime/ontimelaw19.LivenessValues", spec := "livenessValues", unfollowed := true, recurses := true, apart := false, narrowed := true }
def LivenessValuesUptoSaid : Prop := livenessValuesUptoRow.holds Try.pinned (OpenSpec.upto livenessValuesSpec)

/-- 'ontimelaw17.IrValid', WHERE WHAT IT READS IS OF BULK AT MOST 1048576: true; the input reads as it did. -/
def irValidUptoRow : OpenClaim := { program := "ytljacnpadelilaa", sum := "a3b2c91c2e986f21fd7a0f61ecf6bc3ea4ee8ca570d9c7b25ca6660edcfea6eb", func := "ontime/ontimelaw17.IrValid", spec := "irValid", unfollowed := true, recurses := true, apart := false, narrowed := true }
def IrValidUptoSaid : Prop := irValidUptoRow.holds Try.pinned (OpenSpec.upto irValidSpec)

/-- 'ontimelaw17.IrRuns', WHERE WHAT IT READS IS OF BULK AT MOST 1048576: true; the input reads as it did. -/
def irRunsUptoRow : OpenClaim := { program := "ytljacnpadelilaa", sum := "a3b2c91c2e986f21fd7a0f61ecf6bc3ea4ee8ca570d9c7b25ca6660edcfea6eb", func := "ontime/ontimelaw17.IrRuns", spec := "irRuns", unfollowed := true, recurses := true, apart := false, narrowed := true }
def IrRunsUptoSaid : Prop := irRunsUptoRow.holds Try.pinned (OpenSpec.upto irRunsSpec)

/-- 'ontimelaw17.IrBlocks', WHERE WHAT IT READS IS OF BULK AT MOST 1048576: true; the input reads as it did. -/
def irBlocksUptoRow : OpenClaim := { program := "ytljacnpadelilaa", sum := "a3b2c91c2e986f21fd7a0f61ecf6bc3ea4ee8ca570d9c7b25ca6660edcfea6eb", func := "ontime/ontimelaw17.IrBlocks", spec := "irBlocks", unfollowed := true, recurses := true, apart := false, narrowed := true }
def IrBlocksUptoSaid : Prop := irBlocksUptoRow.holds Try.pinned (OpenSpec.upto irBlocksSpec)

/-- 'ontimelaw17.IrFuel', WHERE WHAT IT READS IS OF BULK AT MOST 1048576: true; the input reads as it did. -/
def irFuelUptoRow : OpenClaim := { program := "ytljacnpadelilaa", sum := "a3b2c91c2e986f21fd7a0f61ecf6bc3ea4ee8ca570d9c7b25ca6660edcfea6eb", func := "ontime/ontimelaw17.IrFuel", spec := "irFuel", unfollowed := true, recurses := true, apart := false, narrowed := true }
def IrFuelUptoSaid : Prop := irFuelUptoRow.holds Try.pinned (OpenSpec.upto irFuelSpec)

/-- 'ontimelaw17.IrRenumbers', WHERE WHAT IT READS IS OF BULK AT MOST 1048576: true; the input reads as it did. -/
def irRenumbersUptoRow : OpenClaim := { program := "ytljacnpadelilaa", sum := "a3b2c91c2e986f21fd7a0f61ecf6bc3ea4ee8ca570d9c7b25ca6660edcfea6eb", func := "ontime/ontimelaw17.IrRenumbers", spec := "irRenumbers", unfollowed := true, recurses := true, apart := false, narrowed := true }
def IrRenumbersUptoSaid : Prop := irRenumbersUptoRow.holds Try.pinned (OpenSpec.upto irRenumbersSpec)

/-- 'ontimelaw17.IrOperands', WHERE WHAT IT READS IS OF BULK AT MOST 1048576: true; the input reads as it did. -/
def irOperandsUptoRow : OpenClaim := { program := "ytljacnpadelilaa", sum := "a3b2c91c2e986f21fd7a0f61ecf6bc3ea4ee8ca570d9c7b25ca6660edcfea6eb", func := "ontime/ontimelaw17.IrOperands", spec := "irOperands", unfollowed := true, recurses := true, apart := false, narrowed := true }
def IrOperandsUptoSaid : Prop := irOperandsUptoRow.holds Try.pinned (OpenSpec.upto irOperandsSpec)

/-- 'ontimelaw17.IrEqual', WHERE WHAT IT READS IS OF BULK AT MOST 1048576: true; the input reads as it did. -/
def irEqualUptoRow : OpenClaim := { program := "ytljacnpadelilaa", sum := "a3b2c91c2e986f21fd7a0f61ecf6bc3ea4ee8ca570d9c7b25ca6660edcfea6eb", func := "ontime/ontimelaw17.IrEqual", spec := "irEqual", unfollowed := true, recurses := true, apart := false, narrowed := true }
def IrEqualUptoSaid : Prop := irEqualUptoRow.holds Try.pinned (OpenSpec.upto irEqualSpec)

/-- 'ontimelaw20.RegallocAllocates', WHERE WHAT IT READS IS OF BULK AT MOST 1048576: true; the input reads as it did. -/
def regallocAllocatesUptoRow : OpenClaim := { program := "ytljacnpadelilaa", sum := "a3b2c91c2e986f21fd7a0f61ecf6bc3ea4ee8ca570d9c7b25ca6660edcfea6eb", func := "ontime/ontimelaw20.RegallocAllocates", spec := "regallocAllocates", unfollowed := true, recurses := true, apart := false, narrowed := true }
def RegallocAllocatesUptoSaid : Prop := regallocAllocatesUptoRow.holds Try.pinned (OpenSpec.upto regallocAllocatesSpec)

/-- 'ontimelaw20.RegallocSound', WHERE WHAT IT READS IS OF BULK AT MOST 1048576: true; the input reads as it did. -/
def regallocSoundUptoRow : OpenClaim := { program := "ytljacnpadelilaa", sum := "a3b2c91c2e986f21fd7a0f61ecf6bc3ea4ee8ca570d9c7b25ca6660edcfea6eb", func := "ontime/ontimelaw20.RegallocSound", spec := "regallocSound", unfollowed := true, recurses := true, apart := false, narrowed := true }
def RegallocSoundUptoSaid : Prop := regallocSoundUptoRow.holds Try.pinned (OpenSpec.upto regallocSoundSpec)

/-- 'ontimelaw19.LivenessMerges', WHERE WHAT IT READS IS OF BULK AT MOST 1048576: true; the input reads as it did. -/
def livenessMergesUptoRow : OpenClaim := { program := "ytljacnpadelilaa", sum := "a3b2c91c2e986f21fd7a0f61ecf6bc3ea4ee8ca570d9c7b25ca6660edcfea6eb", func := "ontime/ontimelaw19.LivenessMerges", spec := "livenessMerges", unfollowed := true, recurses := true, apart := false, narrowed := true }
def LivenessMergesUptoSaid : Prop := livenessMergesUptoRow.holds Try.pinned (OpenSpec.upto livenessMergesSpec)

/-- 'ontimelaw20.RegallocRuns', WHERE WHAT IT READS IS OF BULK AT MOST 1048576: true; the input reads as it did. -/
def regallocRunsUptoRow : OpenClaim := { program := "ytljacnpadelilaa", sum := "a3b2c91c2e986f21fd7a0f61ecf6bc3ea4ee8ca570d9c7b25ca6660edcfea6eb", func := "ontime/ontimelaw20.RegallocRuns", spec := "regallocRuns", unfollowed := true, recurses := true, apart := false, narrowed := true }
def RegallocRunsUptoSaid : Prop := regallocRunsUptoRow.holds Try.pinned (OpenSpec.upto regallocRunsSpec)

end Rows
end Go.Proofs.Ytljacnpadelilaa
