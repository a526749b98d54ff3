/-
  No cell of these rows narrows 'for every input' (looked for: loops, veiled, ifaces, maps, wideKeys, modest, calm, conditions, laid).
  DERIVED. THE GIVEN ROWS OF THIS SEAT. 21 by the template 'for every input the law returns true; each argument reads behind the call as it read before'; 0 by the template 'total and deterministic' (their statements: YtdhfkcodacmbfaaTotals.lean).
  GIVEN WITH THE SEED: the statements are not yours to turn. If you find one false, say at which input.
  Laid BY PROGRAM, IN A SANDBOX (cutbox-rows.mjs): the forced cells as the released guide's own fill.sh prints them over the translation 81d723737fe448cc… (all of the seat's roots in one cut). By AI agents, Wed Nov 11 2026. No macro, syntax, notation, axiom, sorry.
-/
import Derived.Test.YtdhfkcodacmbfaaChecked
import GoSem.Claim
import GoSem.ClaimJoined
import GoSem.ClaimMapViews
import Derived.JoinedTies
import Derived.KernelRfl
namespace Go.Proofs.Ytdhfkcodacmbfaa
/- THE CELL 'sum', in the pinned program and in every row, IS THE sha256 OF THE DUMP (.gsa) THAT YtdhfkcodacmbfaaProg.lean LOADS. Nothing in Lean hashes anything: it is a label: what it is worth is what the hold of that sum in a sandbox is worth. -/
noncomputable def Try.pinned : Pinned := { name := "ytdhfkcodacmbfaa", sum := "81d723737fe448cc960d45711d89d1312c8587ff50af2d7ee8664e4970f6bad1", checked := Try.checked }
namespace Rows
def none {H : Type} : Left H := { results := [], args := [] }

/-- 'fuglemanlaw01.CrcSums': WHATEVER THE INPUT: true; the input reads as it did. -/
def crcSumsSpec : ChangeSpec := { name := "crcSums", fn := fun _ => fun
  | [d1, d2] => { results := [.lit (.bool true)], args := [d1, d2] }
  | _ => none }
def crcSumsRow : OpenClaim := { program := "ytdhfkcodacmbfaa", sum := "81d723737fe448cc960d45711d89d1312c8587ff50af2d7ee8664e4970f6bad1", func := "fugleman/fuglemanlaw01.CrcSums", spec := "crcSums", apart := false }
def CrcSumsSaid : Prop := crcSumsRow.holds Try.pinned (OpenSpec.ofChange crcSumsSpec)

/-- ITS FALSE NEIGHBOUR: 'it returns false'. Refute it at one input. -/
def crcSumsWrong : ChangeSpec := { name := "crcSums", fn := fun _ => fun
  | [d1, d2] => { results := [.lit (.bool false)], args := [d1, d2] }
  | _ => none }
def CrcSumsWrongFalsely : Prop := crcSumsRow.holds Try.pinned (OpenSpec.ofChange crcSumsWrong)

/-- 'fuglemanlaw01.CrcBursts': WHATEVER THE INPUT: true; the input reads as it did. -/
def crcBurstsSpec : ChangeSpec := { name := "crcBursts", fn := fun _ => fun
  | [d1, d2, d3] => { results := [.lit (.bool true)], args := [d1, d2, d3] }
  | _ => none }
def crcBurstsRow : OpenClaim := { program := "ytdhfkcodacmbfaa", sum := "81d723737fe448cc960d45711d89d1312c8587ff50af2d7ee8664e4970f6bad1", func := "fugleman/fuglemanlaw01.CrcBursts", spec := "crcBursts", apart := false }
def CrcBurstsSaid : Prop := crcBurstsRow.holds Try.pinned (OpenSpec.ofChange crcBurstsSpec)

/-- ITS FALSE NEIGHBOUR: 'it returns false'. Refute it at one input. -/
def crcBurstsWrong : ChangeSpec := { name := "crcBursts", fn := fun _ => fun
  | [d1, d2, d3] => { results := [.lit (.bool false)], args := [d1, d2, d3] }
  | _ => none }
def CrcBurstsWrongFalsely : Prop := crcBurstsRow.holds Try.pinned (OpenSpec.ofChange crcBurstsWrong)

/-- 'fuglemanlaw01.CrcFlips': WHATEVER THE INPUT: true; the input reads as it did. -/
def crcFlipsSpec : ChangeSpec := { name := "crcFlips", fn := fun _ => fun
  | [d1, d2, d3] => { results := [.lit (.bool true)], args := [d1, d2, d3] }
  | _ => none }
def crcFlipsRow : OpenClaim := { program := "ytdhfkcodacmbfaa", sum := "81d723737fe448cc960d45711d89d1312c8587ff50af2d7ee8664e4970f6bad1", func := "fugleman/fuglemanlaw01.CrcFlips", spec := "crcFlips", apart := false }
def CrcFlipsSaid : Prop := crcFlipsRow.holds Try.pinned (OpenSpec.ofChange crcFlipsSpec)

/-- ITS FALSE NEIGHBOUR: 'it returns false'. Refute it at one input. -/
def crcFlipsWrong : ChangeSpec := { name := "crcFlips", fn := fun _ => fun
  | [d1, d2, d3] => { results := [.lit (.bool false)], args := [d1, d2, d3] }
  | _ => none }
def CrcFlipsWrongFalsely : Prop := crcFlipsRow.holds Try.pinned (OpenSpec.ofChange crcFlipsWrong)

/-- 'fuglemanlaw02.OctetsReads': WHATEVER THE INPUT: true; the input reads as it did. -/
def octetsReadsSpec : ChangeSpec := { name := "octetsReads", fn := fun _ => fun
  | [d1, d2] => { results := [.lit (.bool true)], args := [d1, d2] }
  | _ => none }
def octetsReadsRow : OpenClaim := { program := "ytdhfkcodacmbfaa", sum := "81d723737fe448cc960d45711d89d1312c8587ff50af2d7ee8664e4970f6bad1", func := "fugleman/fuglemanlaw02.OctetsReads", spec := "octetsReads", apart := false }
def OctetsReadsSaid : Prop := octetsReadsRow.holds Try.pinned (OpenSpec.ofChange octetsReadsSpec)

/-- ITS FALSE NEIGHBOUR: 'it returns false'. Refute it at one input. -/
def octetsReadsWrong : ChangeSpec := { name := "octetsReads", fn := fun _ => fun
  | [d1, d2] => { results := [.lit (.bool false)], args := [d1, d2] }
  | _ => none }
def OctetsReadsWrongFalsely : Prop := octetsReadsRow.holds Try.pinned (OpenSpec.ofChange octetsReadsWrong)

/-- 'fuglemanlaw02.OctetsBack': WHATEVER THE INPUT: true; the input reads as it did. -/
def octetsBackSpec : ChangeSpec := { name := "octetsBack", fn := fun _ => fun
  | [d] => { results := [.lit (.bool true)], args := [d] }
  | _ => none }
def octetsBackRow : OpenClaim := { program := "ytdhfkcodacmbfaa", sum := "81d723737fe448cc960d45711d89d1312c8587ff50af2d7ee8664e4970f6bad1", func := "fugleman/fuglemanlaw02.OctetsBack", spec := "octetsBack", apart := false }
def OctetsBackSaid : Prop := octetsBackRow.holds Try.pinned (OpenSpec.ofChange octetsBackSpec)

/-- ITS FALSE NEIGHBOUR: 'it returns false'. Refute it at one input. -/
def octetsBackWrong : ChangeSpec := { name := "octetsBack", fn := fun _ => fun
  | [d] => { results := [.lit (.bool false)], args := [d] }
  | _ => none }
def OctetsBackWrongFalsely : Prop := octetsBackRow.holds Try.pinned (OpenSpec.ofChange octetsBackWrong)

/-- 'fuglemanlaw02.OctetsWrites': WHATEVER THE INPUT: true; the input reads as it did. -/
def octetsWritesSpec : ChangeSpec := { name := "octetsWrites", fn := fun _ => fun
  | [d] => { results := [.lit (.bool true)], args := [d] }
  | _ => none }
def octetsWritesRow : OpenClaim := { program := "ytdhfkcodacmbfaa", sum := "81d723737fe448cc960d45711d89d1312c8587ff50af2d7ee8664e4970f6bad1", func := "fugleman/fuglemanlaw02.OctetsWrites", spec := "octetsWrites", apart := false }
def OctetsWritesSaid : Prop := octetsWritesRow.holds Try.pinned (OpenSpec.ofChange octetsWritesSpec)

/-- ITS FALSE NEIGHBOUR: 'it returns false'. Refute it at one input. -/
def octetsWritesWrong : ChangeSpec := { name := "octetsWrites", fn := fun _ => fun
  | [d] => { results := [.lit (.bool false)], args := [d] }
  | _ => none }
def OctetsWritesWrongFalsely : Prop := octetsWritesRow.holds Try.pinned (OpenSpec.ofChange octetsWritesWrong)

/-- 'fuglemanlaw01.CrcZeros': WHATEVER THE INPUT: true; the input reads as it did. -/
def crcZerosSpec : ChangeSpec := { name := "crcZeros", fn := fun _ => fun
  | [d1, d2] => { results := [.lit (.bool true)], args := [d1, d2] }
  | _ => none }
def crcZerosRow : OpenClaim := { program := "ytdhfkcodacmbfaa", sum := "81d723737fe448cc960d45711d89d1312c8587ff50af2d7ee8664e4970f6bad1", func := "fugleman/fuglemanlaw01.CrcZeros", spec := "crcZeros", apart := false }
def CrcZerosSaid : Prop := crcZerosRow.holds Try.pinned (OpenSpec.ofChange crcZerosSpec)

/-- ITS FALSE NEIGHBOUR: 'it returns false'. Refute it at one input. -/
def crcZerosWrong : ChangeSpec := { name := "crcZeros", fn := fun _ => fun
  | [d1, d2] => { results := [.lit (.bool false)], args := [d1, d2] }
  | _ => none }
def CrcZerosWrongFalsely : Prop := crcZerosRow.holds Try.pinned (OpenSpec.ofChange crcZerosWrong)

/-- 'fuglemanlaw09.BusFull': WHATEVER THE INPUT: true; the input reads as it did. -/
def busFullSpec : ChangeSpec := { name := "busFull", fn := fun _ => fun
  | [d1, d2, d3] => { results := [.lit (.bool true)], args := [d1, d2, d3] }
  | _ => none }
def busFullRow : OpenClaim := { program := "ytdhfkcodacmbfaa", sum := "81d723737fe448cc960d45711d89d1312c8587ff50af2d7ee8664e4970f6bad1", func := "fugleman/fuglemanlaw09.BusFull", spec := "busFull", apart := false }
def BusFullSaid : Prop := busFullRow.holds Try.pinned (OpenSpec.ofChange busFullSpec)

/-- ITS FALSE NEIGHBOUR: 'it returns false'. Refute it at one input. -/
def busFullWrong : ChangeSpec := { name := "busFull", fn := fun _ => fun
  | [d1, d2, d3] => { results := [.lit (.bool false)], args := [d1, d2, d3] }
  | _ => none }
def BusFullWrongFalsely : Prop := busFullRow.holds Try.pinned (OpenSpec.ofChange busFullWrong)

/-- 'fuglemanlaw01.CrcJoins': WHATEVER THE INPUT: true; the input reads as it did. -/
def crcJoinsSpec : ChangeSpec := { name := "crcJoins", fn := fun _ => fun
  | [d1, d2] => { results := [.lit (.bool true)], args := [d1, d2] }
  | _ => none }
def crcJoinsRow : OpenClaim := { program := "ytdhfkcodacmbfaa", sum := "81d723737fe448cc960d45711d89d1312c8587ff50af2d7ee8664e4970f6bad1", func := "fugleman/fuglemanlaw01.CrcJoins", spec := "crcJoins", apart := false }
def CrcJoinsSaid : Prop := crcJoinsRow.holds Try.pinned (OpenSpec.ofChange crcJoinsSpec)

/-- ITS FALSE NEIGHBOUR: 'it returns false'. Refute it at one input. -/
def crcJoinsWrong : ChangeSpec := { name := "crcJoins", fn := fun _ => fun
  | [d1, d2] => { results := [.lit (.bool false)], args := [d1, d2] }
  | _ => none }
def CrcJoinsWrongFalsely : Prop := crcJoinsRow.holds Try.pinned (OpenSpec.ofChange crcJoinsWrong)

/-- 'fuglemanlaw09.BusHurts': WHATEVER THE INPUT: true; the input reads as it did. -/
def busHurtsSpec : ChangeSpec := { name := "busHurts", fn := fun _ => fun
  | [d1, d2, d3] => { results := [.lit (.bool true)], args := [d1, d2, d3] }
  | _ => none }
def busHurtsRow : OpenClaim := { program := "ytdhfkcodacmbfaa", sum := "81d723737fe448cc960d45711d89d1312c8587ff50af2d7ee8664e4970f6bad1", func := "fugleman/fuglemanlaw09.BusHurts", spec := "busHurts", apart := false }
def BusHurtsSaid : Prop := busHurtsRow.holds Try.pinned (OpenSpec.ofChange busHurtsSpec)

/-- ITS FALSE NEIGHBOUR: 'it returns false'. Refute it at one input. -/
def busHurtsWrong : ChangeSpec := { name := "busHurts", fn := fun _ => fun
  | [d1, d2, d3] => { results := [.lit (.bool false)], args := [d1, d2, d3] }
  | _ => none }
def BusHurtsWrongFalsely : Prop := busHurtsRow.holds Try.pinned (OpenSpec.ofChange busHurtsWrong)

/-- 'fuglemanlaw09.BusTrue': WHATEVER THE INPUT: true; the input reads as it did. -/
def busTrueSpec : ChangeSpec := { name := "busTrue", fn := fun _ => fun
  | [d] => { results := [.lit (.bool true)], args := [d] }
  | _ => none }
def busTrueRow : OpenClaim := { program := "ytdhfkcodacmbfaa", sum := "81d723737fe448cc960d45711d89d1312c8587ff50af2d7ee8664e4970f6bad1", func := "fugleman/fuglemanlaw09.BusTrue", spec := "busTrue", apart := false }
def BusTrueSaid : Prop := busTrueRow.holds Try.pinned (OpenSpec.ofChange busTrueSpec)

/-- ITS FALSE NEIGHBOUR: 'it returns false'. Refute it at one input. -/
def busTrueWrong : ChangeSpec := { name := "busTrue", fn := fun _ => fun
  | [d] => { results := [.lit (.bool false)], args := [d] }
  | _ => none }
def BusTrueWrongFalsely : Prop := busTrueRow.holds Try.pinned (OpenSpec.ofChange busTrueWrong)

/-- 'fuglemanlaw09.BusRuns': WHATEVER THE INPUT: true; the input reads as it did. -/
def busRunsSpec : ChangeSpec := { name := "busRuns", fn := fun _ => fun
  | [d] => { results := [.lit (.bool true)], args := [d] }
  | _ => none }
def busRunsRow : OpenClaim := { program := "ytdhfkcodacmbfaa", sum := "81d723737fe448cc960d45711d89d1312c8587ff50af2d7ee8664e4970f6bad1", func := "fugleman/fuglemanlaw09.BusRuns", spec := "busRuns", apart := false }
def BusRunsSaid : Prop := busRunsRow.holds Try.pinned (OpenSpec.ofChange busRunsSpec)

/-- ITS FALSE NEIGHBOUR: 'it returns false'. Refute it at one input. -/
def busRunsWrong : ChangeSpec := { name := "busRuns", fn := fun _ => fun
  | [d] => { results := [.lit (.bool false)], args := [d] }
  | _ => none }
def BusRunsWrongFalsely : Prop := busRunsRow.holds Try.pinned (OpenSpec.ofChange busRunsWrong)

/-- 'fuglemanlaw11.IecDoes': WHATEVER THE INPUT: true; the input reads as it did. -/
def iecDoesSpec : ChangeSpec := { name := "iecDoes", fn := fun _ => fun
  | [d1, d2, d3] => { results := [.lit (.bool true)], args := [d1, d2, d3] }
  | _ => none }
def iecDoesRow : OpenClaim := { program := "ytdhfkcodacmbfaa", sum := "81d723737fe448cc960d45711d89d1312c8587ff50af2d7ee8664e4970f6bad1", func := "fugleman/fuglemanlaw11.IecDoes", spec := "iecDoes", apart := false }
def IecDoesSaid : Prop := iecDoesRow.holds Try.pinned (OpenSpec.ofChange iecDoesSpec)

/-- ITS FALSE NEIGHBOUR: 'it returns false'. Refute it at one input. -/
def iecDoesWrong : ChangeSpec := { name := "iecDoes", fn := fun _ => fun
  | [d1, d2, d3] => { results := [.lit (.bool false)], args := [d1, d2, d3] }
  | _ => none }
def IecDoesWrongFalsely : Prop := iecDoesRow.holds Try.pinned (OpenSpec.ofChange iecDoesWrong)

/-- 'fuglemanlaw11.IecBytes': WHATEVER THE INPUT: true; the input reads as it did. -/
def iecBytesSpec : ChangeSpec := { name := "iecBytes", fn := fun _ => fun
  | [d1, d2, d3] => { results := [.lit (.bool true)], args := [d1, d2, d3] }
  | _ => none }
def iecBytesRow : OpenClaim := { program := "ytdhfkcodacmbfaa", sum := "81d723737fe448cc960d45711d89d1312c8587ff50af2d7ee8664e4970f6bad1", func := "fugleman/fuglemanlaw11.IecBytes", spec := "iecBytes", apart := false }
def IecBytesSaid : Prop := iecBytesRow.holds Try.pinned (OpenSpec.ofChange iecBytesSpec)

/-- ITS FALSE NEIGHBOUR: 'it returns false'. Refute it at one input. -/
def iecBytesWrong : ChangeSpec := { name := "iecBytes", fn := fun _ => fun
  | [d1, d2, d3] => { results := [.lit (.bool false)], args := [d1, d2, d3] }
  | _ => none }
def IecBytesWrongFalsely : Prop := iecBytesRow.holds Try.pinned (OpenSpec.ofChange iecBytesWrong)

/-- 'fuglemanlaw11.IecBack': WHATEVER THE INPUT: true; the input reads as it did. -/
def iecBackSpec : ChangeSpec := { name := "iecBack", fn := fun _ => fun
  | [d1, d2, d3] => { results := [.lit (.bool true)], args := [d1, d2, d3] }
  | _ => none }
def iecBackRow : OpenClaim := { program := "ytdhfkcodacmbfaa", sum := "81d723737fe448cc960d45711d89d1312c8587ff50af2d7ee8664e4970f6bad1", func := "fugleman/fuglemanlaw11.IecBack", spec := "iecBack", apart := false }
def IecBackSaid : Prop := iecBackRow.holds Try.pinned (OpenSpec.ofChange iecBackSpec)

/-- ITS FALSE NEIGHBOUR: 'it returns false'. Refute it at one input. -/
def iecBackWrong : ChangeSpec := { name := "iecBack", fn := fun _ => fun
  | [d1, d2, d3] => { results := [.lit (.bool false)], args := [d1, d2, d3] }
  | _ => none }
def IecBackWrongFalsely : Prop := iecBackRow.holds Try.pinned (OpenSpec.ofChange iecBackWrong)

/-- 'fuglemanlaw11.IecRings': WHATEVER THE INPUT: true; the input reads as it did. -/
def iecRingsSpec : ChangeSpec := { name := "iecRings", fn := fun _ => fun
  | [d1, d2] => { results := [.lit (.bool true)], args := [d1, d2] }
  | _ => none }
def iecRingsRow : OpenClaim := { program := "ytdhfkcodacmbfaa", sum := "81d723737fe448cc960d45711d89d1312c8587ff50af2d7ee8664e4970f6bad1", func := "fugleman/fuglemanlaw11.IecRings", spec := "iecRings", unfollowed := true, recurses := true, apart := false }
def IecRingsSaid : Prop := iecRingsRow.holds Try.pinned (OpenSpec.ofChange iecRingsSpec)

/-- ITS FALSE NEIGHBOUR: 'it returns false'. Refute it at one input. -/
def iecRingsWrong : ChangeSpec := { name := "iecRings", fn := fun _ => fun
  | [d1, d2] => { results := [.lit (.bool false)], args := [d1, d2] }
  | _ => none }
def IecRingsWrongFalsely : Prop := iecRingsRow.holds Try.pinned (OpenSpec.ofChange iecRingsWrong)

/-- 'fuglemanlaw11.IecLogic': WHATEVER THE INPUT: true; the input reads as it did. -/
def iecLogicSpec : ChangeSpec := { name := "iecLogic", fn := fun _ => fun
  | [d1, d2, d3] => { results := [.lit (.bool true)], args := [d1, d2, d3] }
  | _ => none }
def iecLogicRow : OpenClaim := { program := "ytdhfkcodacmbfaa", sum := "81d723737fe448cc960d45711d89d1312c8587ff50af2d7ee8664e4970f6bad1", func := "fugleman/fuglemanlaw11.IecLogic", spec := "iecLogic", unfollowed := true, recurses := true, apart := false }
def IecLogicSaid : Prop := iecLogicRow.holds Try.pinned (OpenSpec.ofChange iecLogicSpec)

/-- ITS FALSE NEIGHBOUR: 'it returns false'. Refute it at one input. -/
def iecLogicWrong : ChangeSpec := { name := "iecLogic", fn := fun _ => fun
  | [d1, d2, d3] => { results := [.lit (.bool false)], args := [d1, d2, d3] }
  | _ => none }
def IecLogicWrongFalsely : Prop := iecLogicRow.holds Try.pinned (OpenSpec.ofChange iecLogicWrong)

/-- 'fuglemanlaw11.IecKinds': WHATEVER THE INPUT: true; the input reads as it did. -/
def iecKindsSpec : ChangeSpec := { name := "iecKinds", fn := fun _ => fun
  | [d1, d2, d3] => { results := [.lit (.bool true)], args := [d1, d2, d3] }
  | _ => none }
def iecKindsRow : OpenClaim := { program := "ytdhfkcodacmbfaa", sum := "81d723737fe448cc960d45711d89d1312c8587ff50af2d7ee8664e4970f6bad1", func := "fugleman/fuglemanlaw11.IecKinds", spec := "iecKinds", unfollowed := true, recurses := true, apart := false }
def IecKindsSaid : Prop := iecKindsRow.holds Try.pinned (OpenSpec.ofChange iecKindsSpec)

/-- ITS FALSE NEIGHBOUR: 'it returns false'. Refute it at one input. -/
def iecKindsWrong : ChangeSpec := { name := "iecKinds", fn := fun _ => fun
  | [d1, d2, d3] => { results := [.lit (.bool false)], args := [d1, d2, d3] }
  | _ => none }
def IecKindsWrongFalsely : Prop := iecKindsRow.holds Try.pinned (OpenSpec.ofChange iecKindsWrong)

/-- 'fuglemanlaw13.CodeReads': WHATEVER THE INPUT: true; the input reads as it did. -/
def codeReadsSpec : ChangeSpec := { name := "codeReads", fn := fun _ => fun
  | [d] => { results := [.lit (.bool true)], args := [d] }
  | _ => none }
def codeReadsRow : OpenClaim := { program := "ytdhfkcodacmbfaa", sum := "81d723737fe448cc960d45711d89d1312c8587ff50af2d7ee8664e4970f6bad1", func := "fugleman/fuglemanlaw13.CodeReads", spec := "codeReads", unfollowed := true, recurses := true, apart := false }
def CodeReadsSaid : Prop := codeReadsRow.holds Try.pinned (OpenSpec.ofChange codeReadsSpec)

/-- ITS FALSE NEIGHBOUR: 'it returns false'. Refute it at one input. -/
def codeReadsWrong : ChangeSpec := { name := "codeReads", fn := fun _ => fun
  | [d] => { results := [.lit (.bool false)], args := [d] }
  | _ => none }
def CodeReadsWrongFalsely : Prop := codeReadsRow.holds Try.pinned (OpenSpec.ofChange codeReadsWrong)

/-- 'fuglemanlaw13.CodeMakes': WHATEVER THE INPUT: true; the input reads as it did. -/
def codeMakesSpec : ChangeSpec := { name := "codeMakes", fn := fun _ => fun
  | [d] => { results := [.lit (.bool true)], args := [d] }
  | _ => none }
def codeMakesRow : OpenClaim := { program := "ytdhfkcodacmbfaa", sum := "81d723737fe448cc960d45711d89d1312c8587ff50af2d7ee8664e4970f6bad1", func := "fugleman/fuglemanlaw13.CodeMakes", spec := "codeMakes", unfollowed := true, recurses := true, apart := false }
def CodeMakesSaid : Prop := codeMakesRow.holds Try.pinned (OpenSpec.ofChange codeMakesSpec)

/-- ITS FALSE NEIGHBOUR: 'it returns false'. Refute it at one input. -/
def codeMakesWrong : ChangeSpec := { name := "codeMakes", fn := fun _ => fun
  | [d] => { results := [.lit (.bool false)], args := [d] }
  | _ => none }
def CodeMakesWrongFalsely : Prop := codeMakesRow.holds Try.pinned (OpenSpec.ofChange codeMakesWrong)

/-- 'fuglemanlaw13.CodeHurt': WHATEVER THE INPUT: true; the input reads as it did. -/
def codeHurtSpec : ChangeSpec := { name := "codeHurt", fn := fun _ => fun
  | [d1, d2, d3] => { results := [.lit (.bool true)], args := [d1, d2, d3] }
  | _ => none }
def codeHurtRow : OpenClaim := { program := "ytdhfkcodacmbfaa", sum := "81d723737fe448cc960d45711d89d1312c8587ff50af2d7ee8664e4970f6bad1", func := "fugleman/fuglemanlaw13.CodeHurt", spec := "codeHurt", unfollowed := true, recurses := true, apart := false }
def CodeHurtSaid : Prop := codeHurtRow.holds Try.pinned (OpenSpec.ofChange codeHurtSpec)

/-- ITS FALSE NEIGHBOUR: 'it returns false'. Refute it at one input. -/
def codeHurtWrong : ChangeSpec := { name := "codeHurt", fn := fun _ => fun
  | [d1, d2, d3] => { results := [.lit (.bool false)], args := [d1, d2, d3] }
  | _ => none }
def CodeHurtWrongFalsely : Prop := codeHurtRow.holds Try.pinned (OpenSpec.ofChange codeHurtWrong)

/- THE SECOND FORM. 'bulk': how many values and letters a reading holds, each counted each time it is reached (what is shared counts as often as it is met; a slice's spare places count too). A statement '..UptoSaid' is the law's where the arguments, and the package variables that the reading takes, are together of bulk at most 1048576: NARROWER than '..Said'. Prove '..Said' where nothing that the law and all that it calls make is longer than what came in: it says more and counts as full. Else prove '..UptoSaid'. A law counts once. -/
mutual
def uptoBulk {H : Type} : DataW H → Nat
  | .lit (.string bytes) => bytes.length + 1
  | .lit _ => 1
  | .nil => 1
  | .ptr d => uptoBulk d + 1
  | .slice elems spare => uptoBulkAll elems + uptoBulkAll spare + 1
  | .agg parts => uptoBulkAll parts + 1
  | .iface _ d => uptoBulk d + 1
  | .map entries => uptoBulkEntries entries + 1
  | .held _ => 1
def uptoBulkAll {H : Type} : List (DataW H) → Nat
  | [] => 0
  | d :: r => uptoBulk d + uptoBulkAll r
def uptoBulkEntries {H : Type} : List (Lit × DataW H) → Nat
  | [] => 0
  | x :: r => uptoBulkEntry x + uptoBulkEntries r
def uptoBulkEntry {H : Type} : Lit × DataW H → Nat
  | (.string bytes, d) => bytes.length + uptoBulk d + 1
  | (_, d) => uptoBulk d + 1
 end
def uptoSmall : (H : Type) → List (DataW H) → Bool := fun _ ds => decide (uptoBulkAll ds ≤ 1048576)
def OpenSpec.upto (s : _root_.Go.ChangeSpec) : _root_.Go.OpenSpec := { _root_.Go.OpenSpec.ofChange s with cond := some uptoSmall }

/-- 'fuglemanlaw01.CrcSums', WHERE WHAT IT READS IS OF BULK AT MOST 1048576: true; the input reads as it did. -/
def crcSumsUptoRow : OpenClaim := { program := "ytdhfkcodacmbfaa", sum := "81d723737fe448cc960d45711d89d1312c8587ff50af2d7ee8664e4970f6bad1", func := "fugleman/fuglemanlaw01.CrcSums", spec := "crcSums", apart := false, narrowed := true }
def CrcSumsUptoSaid : Prop := crcSumsUptoRow.holds Try.pinned (OpenSpec.upto crcSumsSpec)

/-- 'fuglemanlaw01.CrcBursts', WHERE WHAT IT READS IS OF BULK AT MOST 1048576: true; the input reads as it did. -/
def crcBurstsUptoRow : OpenClaim := { program := "ytdhfkcodacmbfaa", sum := "81d723737fe448cc960d45711d89d1312c8587ff50af2d7ee8664e4970f6bad1", func := "fugleman/fuglemanlaw01.CrcBursts", spec := "crcBursts", apart := false, narrowed := true }
def CrcBurstsUptoSaid : Prop := crcBurstsUptoRow.holds Try.pinned (OpenSpec.upto crcBurstsSpec)

/-- 'fuglemanlaw01.CrcFlips', WHERE WHAT IT READS IS OF BULK AT MOST 1048576: true; the input reads as it did. -/
def crcFlipsUptoRow : OpenClaim := { program := "ytdhfkcodacmbfaa", sum := "81d723737fe448cc960d45711d89d1312c8587ff50af2d7ee8664e4970f6bad1", func := "fugleman/fuglemanlaw01.CrcFlips", spec := "crcFlips", apart := false, narrowed := true }
def CrcFlipsUptoSaid : Prop := crcFlipsUptoRow.holds Try.pinned (OpenSpec.upto crcFlipsSpec)

/-- 'fuglemanlaw02.OctetsReads', WHERE WHAT IT READS IS OF BULK AT MOST 1048576: true; the input reads as it did. -/
def octetsReadsUptoRow : OpenClaim := { program := "ytdhfkcodacmbfaa", sum := "81d723737fe448cc960d45711d89d1312c8587ff50af2d7ee8664e4970f6bad1", func := "fugleman/fuglemanlaw02.OctetsReads", spec := "octetsReads", apart := false, narrowed := true }
def OctetsReadsUptoSaid : Prop := octetsReadsUptoRow.holds Try.pinned (OpenSpec.upto octetsReadsSpec)

/-- 'fuglemanlaw02.OctetsBack', WHERE WHAT IT READS IS OF BULK AT MOST 1048576: true; the input reads as it did. -/
def octetsBackUptoRow : OpenClaim := { program := "ytdhfkcodacmbfaa", sum := "81d723737fe448cc960d45711d89d1312c8587ff50af2d7ee8664e4970f6bad1", func := "fugleman/fuglemanlaw02.OctetsBack", spec := "octetsBack", apart := false, narrowed := true }
def OctetsBackUptoSaid : Prop := octetsBackUptoRow.holds Try.pinned (OpenSpec.upto octetsBackSpec)

/-- 'fuglemanlaw02.OctetsWrites', WHERE WHAT IT READS IS OF BULK AT MOST 1048576: true; the input reads as it did. -/
def octetsWritesUptoRow : OpenClaim := { program := "ytdhfkcodacmbfaa", sum := "81d723737fe448cc960d45711d89d1312c8587ff50af2d7ee8664e4970f6bad1", func := "fugleman/fuglemanlaw02.OctetsWrites", spec := "octetsWrites", apart := false, narrowed := true }
def OctetsWritesUptoSaid : Prop := octetsWritesUptoRow.holds Try.pinned (OpenSpec.upto octetsWritesSpec)

/-- 'fuglemanlaw01.CrcZeros', WHERE WHAT IT READS IS OF BULK AT MOST 1048576: true; the input reads as it did. -/
def crcZerosUptoRow : OpenClaim := { program := "ytdhfkcodacmbfaa", sum := "81d723737fe448cc960d45711d89d1312c8587ff50af2d7ee8664e4970f6bad1", func := "fugleman/fuglemanlaw01.CrcZeros", spec := "crcZeros", apart := false, narrowed := true }
def CrcZerosUptoSaid : Prop := crcZerosUptoRow.holds Try.pinned (OpenSpec.upto crcZerosSpec)

/-- 'fuglemanlaw09.BusFull', WHERE WHAT IT READS IS OF BULK AT MOST 1048576: true; the input reads as it did. -/
def busFullUptoRow : OpenClaim := { program := "ytdhfkcodacmbfaa", sum := "81d723737fe448cc960d45711d89d1312c8587ff50af2d7ee8664e4970f6bad1", func := "fugleman/fuglemanlaw09.BusFull", spec := "busFull", apart := false, narrowed := true }
def BusFullUptoSaid : Prop := busFullUptoRow.holds Try.pinned (OpenSpec.upto busFullSpec)

/-- 'fuglemanlaw01.CrcJoins', WHERE WHAT IT READS IS OF BULK AT MOST 1048576: true; the input reads as it did. -/
def crcJoinsUptoRow : OpenClaim := { program := "ytdhfkcodacmbfaa", sum := "81d723737fe448cc960d45711d89d1312c8587ff50af2d7ee8664e4970f6bad1", func := "fugleman/fuglemanlaw01.CrcJoins", spec := "crcJoins", apart := false, narrowed := true }
def CrcJoinsUptoSaid : Prop := crcJoinsUptoRow.holds Try.pinned (OpenSpec.upto crcJoinsSpec)

/-- 'fuglemanlaw09.BusHurts', WHERE WHAT IT READS IS OF BULK AT MOST 1048576: true; the input reads as it did. -/
def busHurtsUptoRow : OpenClaim := { program := "ytdhfkcodacmbfaa", sum := "81d723737fe448cc960d45711d89d1312c8587ff50af2d7ee8664e4970f6bad1", func := "fugleman/fuglemanlaw09.BusHurts", spec := "busHurts", apart := false, narrowed := true }
def BusHurtsUptoSaid : Prop := busHurtsUptoRow.holds Try.pinned (OpenSpec.upto busHurtsSpec)

/-- 'fuglemanlaw09.BusTrue', WHERE WHAT IT READS IS OF BULK AT MOST 1048576: true; the input reads as it did. -/
def busTrueUptoRow : OpenClaim := { program := "ytdhfkcodacmbfaa", sum := "81d723737fe448cc960d45711d89d1312c8587ff50af2d7ee8664e4970f6bad1", func := "fugleman/fuglemanlaw09.BusTrue", spec := "busTrue", apart := false, narrowed := true }
def BusTrueUptoSaid : Prop := busTrueUptoRow.holds Try.pinned (OpenSpec.upto busTrueSpec)

/-- 'fuglemanlaw09.BusRuns', WHERE WHAT IT READS IS OF BULK AT MOST 1048576: true; the input reads as it did. -/
def busRunsUptoRow : OpenClaim := { program := "ytdhfkcodacmbfaa", sum := "81d723737fe448cc960d45711d89d1312c8587ff50af2d7ee8664e4970f6bad1", func := "fugleman/fuglemanlaw09.BusRuns", spec := "busRuns", apart := false, narrowed := true }
def BusRunsUptoSaid : Prop := busRunsUptoRow.holds Try.pinned (OpenSpec.upto busRunsSpec)

/-- 'fuglemanlaw11.IecDoes', WHERE WHAT IT READS IS OF BULK AT MOST 1048576: true; the input reads as it did. -/
def iecDoesUptoRow : OpenClaim := { program := "ytdhfkcodacmbfaa", sum := "81d723737fe448cc960d45711d89d1312c8587ff50af2d7ee8664e4970f6bad1", func := "fugleman/fuglemanlaw11.IecDoes", spec := "iecDoes", apart := false, narrowed := true }
def IecDoesUptoSaid : Prop := iecDoesUptoRow.holds Try.pinned (OpenSpec.upto iecDoesSpec)

/-- 'fuglemanlaw11.IecBytes', WHERE WHAT IT READS IS OF BULK AT MOST 1048576: true; the input reads as it did. -/
def iecBytesUptoRow : OpenClaim := { program := "ytdhfkcodacmbfaa", sum := "81d723737fe448cc960d45711d89d1312c8587ff50af2d7ee8664e4970f6bad1", func := "fugleman/fuglemanlaw11.IecBytes", spec := "iecBytes", apart := false, narrowed := true }
def IecBytesUptoSaid : Prop := iecBytesUptoRow.holds Try.pinned (OpenSpec.upto iecBytesSpec)

/-- 'fuglemanlaw11.IecBack', WHERE WHAT IT READS IS OF BULK AT MOST 1048576: true; the input reads as it did. -/
def iecBackUptoRow : OpenClaim := { program := "ytdhfkcodacmbfaa", sum := "81d723737fe448cc960d45711d89d1312c8587ff50af2d7ee8664e4970f6bad1", func := "fugleman/fuglemanlaw11.IecBack", spec := "iecBack", apart := false, narrowed := true }
def IecBackUptoSaid : Prop := iecBackUptoRow.holds Try.pinned (OpenSpec.upto iecBackSpec)

/-- 'fuglemanlaw11.IecRings', WHERE WHAT IT READS IS OF BULK AT MOST 1048576: true; the input reads as it did. -/
def iecRingsUptoRow : OpenClaim := { program := "ytdhfkcodacmbfaa", sum := "81d723737fe448cc960d45711d89d1312c8587ff50af2d7ee8664e4970f6bad1", func := "fugleman/fuglemanlaw11.IecRings", spec := "iecRings", unfollowed := true, recurses := true, apart := false, narrowed := true }
def IecRingsUptoSaid : Prop := iecRingsUptoRow.holds Try.pinned (OpenSpec.upto iecRingsSpec)

/-- 'fuglemanlaw11.IecLogic', WHERE WHAT IT READS IS OF BULK AT MOST 1048576: true; the input reads as it did. -/
def iecLogicUptoRow : OpenClaim := { program := "ytdhfkcodacmbfaa", sum := "81d723737fe448cc960d45711d89d1312c8587ff50af2d7ee8664e4970f6bad1", func := "fugleman/fuglemanlaw11.IecLogic", spec := "iecLogic", unfollowed := true, recurses := true, apart := false, narrowed := true }
def IecLogicUptoSaid : Prop := iecLogicUptoRow.holds Try.pinned (OpenSpec.upto iecLogicSpec)

/-- 'fuglemanlaw11.IecKinds', WHERE WHAT IT READS IS OF BULK AT MOST 1048576: true; the input reads as it did. -/
def iecKindsUptoRow : OpenClaim := { program := "ytdhfkcodacmbfaa", sum := "81d723737fe448cc960d45711d89d1312c8587ff50af2d7ee8664e4970f6bad1", func := "fugleman/fuglemanlaw11.IecKinds", spec := "iecKinds", unfollowed := true, recurses := true, apart := false, narrowed := true }
def IecKindsUptoSaid : Prop := iecKindsUptoRow.holds Try.pinned (OpenSpec.upto iecKindsSpec)

/-- 'fuglemanlaw13.CodeReads', WHERE WHAT IT READS IS OF BULK AT MOST 1048576: true; the input reads as it did. -/
def codeReadsUptoRow : OpenClaim := { program := "ytdhfkcodacmbfaa", sum := "81d723737fe448cc960d45711d89d1312c8587ff50af2d7ee8664e4970f6bad1", func := "fugleman/fuglemanlaw13.CodeReads", spec := "codeReads", unfollowed := true, recurses := true, apart := false, narrowed := true }
def CodeReadsUptoSaid : Prop := codeReadsUptoRow.holds Try.pinned (OpenSpec.upto codeReadsSpec)

/-- 'fuglemanlaw13.CodeMakes', WHERE WHAT IT READS IS OF BULK AT MOST 1048576: true; the input reads as it did. -/
def codeMakesUptoRow : OpenClaim := { program := "ytdhfkcodacmbfaa", sum := "81d723737fe448cc960d45711d89d1312c8587ff50af2d7ee8664e4970f6bad1", func := "fugleman/fuglemanlaw13.CodeMakes", spec := "codeMakes", unfollowed := true, recurses := true, apart := false, narrowed := true }
def CodeMakesUptoSaid : Prop := codeMakesUptoRow.holds Try.pinned (OpenSpec.upto codeMakesSpec)

/-- 'fuglemanlaw13.CodeHurt', WHERE WHAT IT READS IS OF BULK AT MOST 1048576: true; the input reads as it did. -/
def codeHurtUptoRow : OpenClaim := { program := "ytdhfkcodacmbfaa", sum := "81d723737fe448cc960d45711d89d1312c8587ff50af2d7ee8664e4970f6bad1", func := "fugleman/fuglemanlaw13.CodeHurt", spec := "codeHurt", unfollowed := true, recurses := true, apart := false, narrowed := true }
def CodeHurtUptoSaid : Prop := codeHurtUptoRow.holds Try.pinned (OpenSpec.upto codeHurtSpec)

end Rows
end Go.Proofs.Ytdhfkcodacmbfaa
