/-
  No cell of these rows narrows 'for every input' (looked for: loops, veiled, ifaces, maps, wideKeys, modest, calm, conditions, laid).
  DERIVED. THE GIVEN ROWS OF THIS SEAT. 8 by the template 'for every input the law returns true; each argument reads behind the call as it read before'; 0 by the template 'total and deterministic' (their statements: YtecgmmpafccbbaaTotals.lean).
  GIVEN WITH THE SEED: the statements are not yours to turn. If you find one false, say at which input.
  Laid BY PROGRAM, IN A SANDBOX (cutbox-rows.mjs): the forced cells as the released guide's own fill.sh prints them over the translation 8f899b45f2558112… (all of the seat's roots in one cut). By AI agents, Wed Nov 11 2026. No macro, syntax, notation, axiom, sorry.
-/
import Derived.Test.YtecgmmpafccbbaaChecked
import GoSem.Claim
import GoSem.ClaimJoined
import GoSem.ClaimMapViews
import Derived.JoinedTies
import Derived.KernelRfl
namespace Go.Proofs.Ytecgmmpafccbbaa
/- THE CELL 'sum', in the pinned program and in every row, IS THE sha256 OF THE DUMP (.gsa) THAT YtecgmmpafccbbaaProg.lean LOADS. Nothing in Lean hashes anything: it is a label: what it is worth is what the hold of that sum in a sandbox is worth. -/
noncomputable def Try.pinned : Pinned := { name := "ytecgmmpafccbbaa", sum := "8f899b45f2558112d4c9b938cb665684e0f4d0e6e7d4f1a29d227c7d4bd1dd05", checked := Try.checked }
namespace Rows
def none {H : Type} : Left H := { results := [], args := [] }

/-- 'clerestorylaw03.TokenSteps': WHATEVER THE INPUT: true; the input reads as it did. -/
def tokenStepsSpec : ChangeSpec := { name := "tokenSteps", fn := fun _ => fun
  | [d1, d2, d3] => { results := [.lit (.bool true)], args := [d1, d2, d3] }
  | _ => none }
def tokenStepsRow : OpenClaim := { program := "ytecgmmpafccbbaa", sum := "8f899b45f2558112d4c9b938cb665684e0f4d0e6e7d4f1a29d227c7d4bd1dd05", func := "clerestory/clerestorylaw03.TokenSteps", spec := "tokenSteps", unfollowed := true, recurses := true, apart := false }
def TokenStepsSaid : Prop := tokenStepsRow.holds Try.pinned (OpenSpec.ofChange tokenStepsSpec)

/-- ITS FALSE NEIGHBOUR: 'it returns false'. Refute it at one input. -/
def tokenStepsWrong : ChangeSpec := { name := "tokenSteps", fn := fun _ => fun
  | [d1, d2, d3] => { results := [.lit (.bool false)], args := [d1, d2, d3] }
  | _ => none }
def TokenStepsWrongFalsely : Prop := tokenStepsRow.holds Try.pinned (OpenSpec.ofChange tokenStepsWrong)

/-- 'clerestorylaw03.TokenAll': WHATEVER THE INPUT: true; the input reads as it did. -/
def tokenAllSpec : ChangeSpec := { name := "tokenAll", fn := fun _ => fun
  | [d1, d2] => { results := [.lit (.bool true)], args := [d1, d2] }
  | _ => none }
def tokenAllRow : OpenClaim := { program := "ytecgmmpafccbbaa", sum := "8f899b45f2558112d4c9b938cb665684e0f4d0e6e7d4f1a29d227c7d4bd1dd05", func := "clerestory/clerestorylaw03.TokenAll", spec := "tokenAll", unfollowed := true, recurses := true, apart := false }
def TokenAllSaid : Prop := tokenAllRow.holds Try.pinned (OpenSpec.ofChange tokenAllSpec)

/-- ITS FALSE NEIGHBOUR: 'it returns false'. Refute it at one input. -/
def tokenAllWrong : ChangeSpec := { name := "tokenAll", fn := fun _ => fun
  | [d1, d2] => { results := [.lit (.bool false)], args := [d1, d2] }
  | _ => none }
def TokenAllWrongFalsely : Prop := tokenAllRow.holds Try.pinned (OpenSpec.ofChange tokenAllWrong)

/-- 'clerestorylaw03.TokenParts': WHATEVER THE INPUT: true; the input reads as it did. -/
def tokenPartsSpec : ChangeSpec := { name := "tokenParts", fn := fun _ => fun
  | [d1, d2, d3, d4] => { results := [.lit (.bool true)], args := [d1, d2, d3, d4] }
  | _ => none }
def tokenPartsRow : OpenClaim := { program := "ytecgmmpafccbbaa", sum := "8f899b45f2558112d4c9b938cb665684e0f4d0e6e7d4f1a29d227c7d4bd1dd05", func := "clerestory/clerestorylaw03.TokenParts", spec := "tokenParts", unfollowed := true, recurses := true, apart := false }
def TokenPartsSaid : Prop := tokenPartsRow.holds Try.pinned (OpenSpec.ofChange tokenPartsSpec)

/-- ITS FALSE NEIGHBOUR: 'it returns false'. Refute it at one input. -/
def tokenPartsWrong : ChangeSpec := { name := "tokenParts", fn := fun _ => fun
  | [d1, d2, d3, d4] => { results := [.lit (.bool false)], args := [d1, d2, d3, d4] }
  | _ => none }
def TokenPartsWrongFalsely : Prop := tokenPartsRow.holds Try.pinned (OpenSpec.ofChange tokenPartsWrong)

/-- 'clerestorylaw03.TokenNumbers': WHATEVER THE INPUT: true; the input reads as it did. -/
def tokenNumbersSpec : ChangeSpec := { name := "tokenNumbers", fn := fun _ => fun
  | [d1, d2] => { results := [.lit (.bool true)], args := [d1, d2] }
  | _ => none }
def tokenNumbersRow : OpenClaim := { program := "ytecgmmpafccbbaa", sum := "8f899b45f2558112d4c9b938cb665684e0f4d0e6e7d4f1a29d227c7d4bd1dd05", func := "clerestory/clerestorylaw03.TokenNumbers", spec := "tokenNumbers", unfollowed := true, recurses := true, apart := false }
def TokenNumbersSaid : Prop := tokenNumbersRow.holds Try.pinned (OpenSpec.ofChange tokenNumbersSpec)

/-- ITS FALSE NEIGHBOUR: 'it returns false'. Refute it at one input. -/
def tokenNumbersWrong : ChangeSpec := { name := "tokenNumbers", fn := fun _ => fun
  | [d1, d2] => { results := [.lit (.bool false)], args := [d1, d2] }
  | _ => none }
def TokenNumbersWrongFalsely : Prop := tokenNumbersRow.holds Try.pinned (OpenSpec.ofChange tokenNumbersWrong)

/-- 'clerestorylaw20.RingShares': WHATEVER THE INPUT: true; the input reads as it did. -/
def ringSharesSpec : ChangeSpec := { name := "ringShares", fn := fun _ => fun
  | [d1, d2, d3, d4] => { results := [.lit (.bool true)], args := [d1, d2, d3, d4] }
  | _ => none }
def ringSharesRow : OpenClaim := { program := "ytecgmmpafccbbaa", sum := "8f899b45f2558112d4c9b938cb665684e0f4d0e6e7d4f1a29d227c7d4bd1dd05", func := "clerestory/clerestorylaw20.RingShares", spec := "ringShares", unfollowed := true, recurses := true, apart := false }
def RingSharesSaid : Prop := ringSharesRow.holds Try.pinned (OpenSpec.ofChange ringSharesSpec)

/-- ITS FALSE NEIGHBOUR: 'it returns false'. Refute it at one input. -/
def ringSharesWrong : ChangeSpec := { name := "ringShares", fn := fun _ => fun
  | [d1, d2, d3, d4] => { results := [.lit (.bool false)], args := [d1, d2, d3, d4] }
  | _ => none }
def RingSharesWrongFalsely : Prop := ringSharesRow.holds Try.pinned (OpenSpec.ofChange ringSharesWrong)

/-- 'clerestorylaw20.RingBack': WHATEVER THE INPUT: true; the input reads as it did. -/
def ringBackSpec : ChangeSpec := { name := "ringBack", fn := fun _ => fun
  | [d1, d2, d3, d4, d5] => { results := [.lit (.bool true)], args := [d1, d2, d3, d4, d5] }
  | _ => none }
def ringBackRow : OpenClaim := { program := "ytecgmmpafccbbaa", sum := "8f899b45f2558112d4c9b938cb665684e0f4d0e6e7d4f1a29d227c7d4bd1dd05", func := "clerestory/clerestorylaw20.RingBack", spec := "ringBack", unfollowed := true, recurses := true, apart := false }
def RingBackSaid : Prop := ringBackRow.holds Try.pinned (OpenSpec.ofChange ringBackSpec)

/-- ITS FALSE NEIGHBOUR: 'it returns false'. Refute it at one input. -/
def ringBackWrong : ChangeSpec := { name := "ringBack", fn := fun _ => fun
  | [d1, d2, d3, d4, d5] => { results := [.lit (.bool false)], args := [d1, d2, d3, d4, d5] }
  | _ => none }
def RingBackWrongFalsely : Prop := ringBackRow.holds Try.pinned (OpenSpec.ofChange ringBackWrong)

/-- 'clerestorylaw20.RingAll': WHATEVER THE INPUT: true; the input reads as it did. -/
def ringAllSpec : ChangeSpec := { name := "ringAll", fn := fun _ => fun
  | [d1, d2, d3, d4] => { results := [.lit (.bool true)], args := [d1, d2, d3, d4] }
  | _ => none }
def ringAllRow : OpenClaim := { program := "ytecgmmpafccbbaa", sum := "8f899b45f2558112d4c9b938cb665684e0f4d0e6e7d4f1a29d227c7d4bd1dd05", func := "clerestory/clerestorylaw20.RingAll", spec := "ringAll", unfollowed := true, recurses := true, apart := false }
def RingAllSaid : Prop := ringAllRow.holds Try.pinned (OpenSpec.ofChange ringAllSpec)

/-- ITS FALSE NEIGHBOUR: 'it returns false'. Refute it at one input. -/
def ringAllWrong : ChangeSpec := { name := "ringAll", fn := fun _ => fun
  | [d1, d2, d3, d4] => { results := [.lit (.bool false)], args := [d1, d2, d3, d4] }
  | _ => none }
def RingAllWrongFalsely : Prop := ringAllRow.holds Try.pinned (OpenSpec.ofChange ringAllWrong)

/-- 'clerestorylaw20.RingPairs': WHATEVER THE INPUT: true; the input reads as it did. -/
def ringPairsSpec : ChangeSpec := { name := "ringPairs", fn := fun _ => fun
  | [d1, d2, d3, d4] => { results := [.lit (.bool true)], args := [d1, d2, d3, d4] }
  | _ => none }
def ringPairsRow : OpenClaim := { program := "ytecgmmpafccbbaa", sum := "8f899b45f2558112d4c9b938cb665684e0f4d0e6e7d4f1a29d227c7d4bd1dd05", func := "clerestory/clerestorylaw20.RingPairs", spec := "ringPairs", unfollowed := true, recurses := true, apart := false }
def RingPairsSaid : Prop := ringPairsRow.holds Try.pinned (OpenSpec.ofChange ringPairsSpec)

/-- ITS FALSE NEIGHBOUR: 'it returns false'. Refute it at one input. -/
def ringPairsWrong : ChangeSpec := { name := "ringPairs", fn := fun _ => fun
  | [d1, d2, d3, d4] => { results := [.lit (.bool false)], args := [d1, d2, d3, d4] }
  | _ => none }
def RingPairsWrongFalsely : Prop := ringPairsRow.holds Try.pinned (OpenSpec.ofChange ringPairsWrong)

/- THE SECOND FORM. 'bulk': how many values and letters a reading holds, each counted each time it is reached (what is shared counts as often as it is met; a slice's spare places count too). A statement '..UptoSaid' is the law's where the arguments, and the package variables that the reading takes, are together of bulk at most 1048576: NARROWER than '..Said'. Prove '..Said' where nothing that the law and all that it calls make is longer than what came in: it says more and counts as full. Else prove '..UptoSaid'. A law counts once. -/
mutual
def uptoBulk {H : Type} : DataW H → Nat
  | .lit (.string bytes) => bytes.length + 1
  | .lit _ => 1
  | .nil => 1
  | .ptr d => uptoBulk d + 1
  | .slice elems spare => uptoBulkAll elems + uptoBulkAll spare + 1
  | .agg parts => uptoBulkAll parts + 1
  | .iface _ d => uptoBulk d + 1
  | .map entries => uptoBulkEntries entries + 1
  | .held _ => 1
def uptoBulkAll {H : Type} : List (DataW H) → Nat
  | [] => 0
  | d :: r => uptoBulk d + uptoBulkAll r
def uptoBulkEntries {H : Type} : List (Lit × DataW H) → Nat
  | [] => 0
  | x :: r => uptoBulkEntry x + uptoBulkEntries r
def uptoBulkEntry {H : Type} : Lit × DataW H → Nat
  | (.string bytes, d) => bytes.length + uptoBulk d + 1
  | (_, d) => uptoBulk d + 1
 end
def uptoSmall : (H : Type) → List (DataW H) → Bool := fun _ ds => decide (uptoBulkAll ds ≤ 1048576)
def OpenSpec.upto (s : _root_.Go.ChangeSpec) : _root_.Go.OpenSpec := { _root_.Go.OpenSpec.ofChange s with cond := some uptoSmall }

/-- 'clerestorylaw03.TokenSteps', WHERE WHAT IT READS IS OF BULK AT MOST 1048576: true; the input reads as it did. -/
def tokenStepsUptoRow : OpenClaim := { program := "ytecgmmpafccbbaa", sum := "8f899b45f2558112d4c9b938cb665684e0f4d0e6e7d4f1a29d227c7d4bd1dd05", func := "clerestory/clerestorylaw03.TokenSteps", spec := "tokenSteps", unfollowed := true, recurses := true, apart := false, narrowed := true }
def TokenStepsUptoSaid : Prop := tokenStepsUptoRow.holds Try.pinned (OpenSpec.upto tokenStepsSpec)

/-- 'clerestorylaw03.TokenAll', WHERE WHAT IT READS IS OF BULK AT MOST 1048576: true; the input reads as it did. -/
def tokenAllUptoRow : OpenClaim := { program := "ytecgmmpafccbbaa", sum := "8f899b45f2558112d4c9b938cb665684e0f4d0e6e7d4f1a29d227c7d4bd1dd05", func := "clerestory/clerestorylaw03.TokenAll", spec := "tokenAll", unfollowed := true, recurses := true, apart := false, narrowed := true }
def TokenAllUptoSaid : Prop := tokenAllUptoRow.holds Try.pinned (OpenSpec.upto tokenAllSpec)

/-- 'clerestorylaw03.TokenParts', WHERE WHAT IT READS IS OF BULK AT MOST 1048576: true; the input reads as it did. -/
def tokenPartsUptoRow : OpenClaim := { program := "ytecgmmpafccbbaa", sum := "8f899b45f2558112d4c9b938cb665684e0f4d0e6e7d4f1a29d227c7d4bd1dd05", func := "clerestory/clerestorylaw03.TokenParts", spec := "tokenParts", unfollowed := true, recurses := true, apart := false, narrowed := true }
def TokenPartsUptoSaid : Prop := tokenPartsUptoRow.holds Try.pinned (OpenSpec.upto tokenPartsSpec)

/-- 'clerestorylaw03.TokenNumbers', WHERE WHAT IT READS IS OF BULK AT MOST 1048576: true; the input reads as it did. -/
def tokenNumbersUptoRow : OpenClaim := { program := "ytecgmmpafccbbaa", sum := "8f899b45f2558112d4c9b938cb665684e0f4d0e6e7d4f1a29d227c7d4bd1dd05", func := "clerestory/clerestorylaw03.TokenNumbers", spec := "tokenNumbers", unfollowed := true, recurses := true, apart := false, narrowed := true }
def TokenNumbersUptoSaid : Prop := tokenNumbersUptoRow.holds Try.pinned (OpenSpec.upto tokenNumbersSpec)

/-- 'clerestorylaw20.RingShares', WHERE WHAT IT READS IS OF BULK AT MOST 1048576: true; the input reads as it did. -/
def ringSharesUptoRow : OpenClaim := { program := "ytecgmmpafccbbaa", sum := "8f899b45f2558112d4c9b938cb665684e0f4d0e6e7d4f1a29d227c7d4bd1dd05", func := "clerestory/clerestorylaw20.RingShares", spec := "ringShares", unfollowed := true, recurses := true, apart := false, narrowed := true }
def RingSharesUptoSaid : Prop := ringSharesUptoRow.holds Try.pinned (OpenSpec.upto ringSharesSpec)

/-- 'clerestorylaw20.RingBack', WHERE WHAT IT READS IS OF BULK AT MOST 1048576: true; the input reads as it did. -/
def ringBackUptoRow : OpenClaim := { program := "ytecgmmpafccbbaa", sum := "8f899b45f2558112d4c9b938cb665684e0f4d0e6e7d4f1a29d227c7d4bd1dd05", func := "clerestory/clerestorylaw20.RingBack", spec := "ringBack", unfollowed := true, recurses := true, apart := false, narrowed := true }
def RingBackUptoSaid : Prop := ringBackUptoRow.holds Try.pinned (OpenSpec.upto ringBackSpec)

/-- 'clerestorylaw20.RingAll', WHERE WHAT IT READS IS OF BULK AT MOST 1048576: true; the input reads as it did. -/
def ringAllUptoRow : OpenClaim := { program := "ytecgmmpafccbbaa", sum := "8f899b45f2558112d4c9b938cb665684e0f4d0e6e7d4f1a29d227c7d4bd1dd05", func := "clerestory/clerestorylaw20.RingAll", spec := "ringAll", unfollowed := true, recurses := true, apart := false, narrowed := true }
def RingAllUptoSaid : Prop := ringAllUptoRow.holds Try.pinned (OpenSpec.upto ringAllSpec)

/-- 'clerestorylaw20.RingPairs', WHERE WHAT IT READS IS OF BULK AT MOST 1048576: true; the input reads as it did. -/
def ringPairsUptoRow : OpenClaim := { program := "ytecgmmpafccbbaa", sum := "8f899b45f2558112d4c9b938cb665684e0f4d0e6e7d4f1a29d227c7d4bd1dd05", func := "clerestory/clerestorylaw20.RingPairs", spec := "ringPairs", unfollowed := true, recurses := true, apart := false, narrowed := true }
def RingPairsUptoSaid : Prop := ringPairsUptoRow.holds Try.pinned (OpenSpec.upto ringPairsSpec)

end Rows
end Go.Proofs.Ytecgmmpafccbbaa
