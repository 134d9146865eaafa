/-
  No cell of these rows narrows 'for every input' (looked for: loops, veiled, ifaces, maps, wideKeys, modest, calm, conditions, laid).
  DERIVED. THE GIVEN ROWS OF THIS SEAT. 12 by the template 'for every input the law returns true; each argument reads behind the call as it read before'; 0 by the template 'total and deterministic' (their statements: YthbhkmhmiplikaaTotals.lean).
  GIVEN WITH THE SEED: the statements are not yours to turn. If you find one false, say at which input.
  Laid BY PROGRAM, IN A SANDBOX (cutbox-rows.mjs): the forced cells as the released guide's own fill.sh prints them over the translation b69abdb0f236359a… (all of the seat's roots in one cut). By AI agents, Wed Nov 11 2026. No macro, syntax, notation, axiom, sorry.
-/
import Derived.Test.YthbhkmhmiplikaaChecked
import GoSem.Claim
import GoSem.ClaimJoined
import GoSem.ClaimMapViews
import Derived.JoinedTies
import Derived.KernelRfl
namespace Go.Proofs.Ythbhkmhmiplikaa
/- THE CELL 'sum', in the pinned program and in every row, IS THE sha256 OF THE DUMP (.gsa) THAT YthbhkmhmiplikaaProg.lean LOADS. Nothing in Lean hashes anything: it is a label: what it is worth is what the hold of that sum in a sandbox is worth. -/
noncomputable def Try.pinned : Pinned := { name := "ythbhkmhmiplikaa", sum := "b69abdb0f236359a5a59671b9eb64316f5b8c4942f63210abee0d06ecb238cd7", checked := Try.checked }
namespace Rows
def none {H : Type} : Left H := { results := [], args := [] }

/-- 'porpoiselaw04.RingPlays': WHATEVER THE INPUT: true; the input reads as it did. -/
def ringPlaysSpec : ChangeSpec := { name := "ringPlays", fn := fun _ => fun
  | [d1, d2] => { results := [.lit (.bool true)], args := [d1, d2] }
  | _ => none }
def ringPlaysRow : OpenClaim := { program := "ythbhkmhmiplikaa", sum := "b69abdb0f236359a5a59671b9eb64316f5b8c4942f63210abee0d06ecb238cd7", func := "porpoise/porpoiselaw04.RingPlays", spec := "ringPlays", plainKeys := false, apart := false }
def RingPlaysSaid : Prop := ringPlaysRow.holds Try.pinned (OpenSpec.ofChange ringPlaysSpec)

/-- ITS FALSE NEIGHBOUR: 'it returns false'. Refute it at one input. -/
def ringPlaysWrong : ChangeSpec := { name := "ringPlays", fn := fun _ => fun
  | [d1, d2] => { results := [.lit (.bool false)], args := [d1, d2] }
  | _ => none }
def RingPlaysWrongFalsely : Prop := ringPlaysRow.holds Try.pinned (OpenSpec.ofChange ringPlaysWrong)

/-- 'porpoiselaw04.RingTurn': WHATEVER THE INPUT: true; the input reads as it did. -/
def ringTurnSpec : ChangeSpec := { name := "ringTurn", fn := fun _ => fun
  | [d] => { results := [.lit (.bool true)], args := [d] }
  | _ => none }
def ringTurnRow : OpenClaim := { program := "ythbhkmhmiplikaa", sum := "b69abdb0f236359a5a59671b9eb64316f5b8c4942f63210abee0d06ecb238cd7", func := "porpoise/porpoiselaw04.RingTurn", spec := "ringTurn", plainKeys := false, apart := false }
def RingTurnSaid : Prop := ringTurnRow.holds Try.pinned (OpenSpec.ofChange ringTurnSpec)

/-- ITS FALSE NEIGHBOUR: 'it returns false'. Refute it at one input. -/
def ringTurnWrong : ChangeSpec := { name := "ringTurn", fn := fun _ => fun
  | [d] => { results := [.lit (.bool false)], args := [d] }
  | _ => none }
def RingTurnWrongFalsely : Prop := ringTurnRow.holds Try.pinned (OpenSpec.ofChange ringTurnWrong)

/-- 'porpoiselaw04.RingBack': WHATEVER THE INPUT: true; the input reads as it did. -/
def ringBackSpec : ChangeSpec := { name := "ringBack", fn := fun _ => fun
  | [d1, d2] => { results := [.lit (.bool true)], args := [d1, d2] }
  | _ => none }
def ringBackRow : OpenClaim := { program := "ythbhkmhmiplikaa", sum := "b69abdb0f236359a5a59671b9eb64316f5b8c4942f63210abee0d06ecb238cd7", func := "porpoise/porpoiselaw04.RingBack", spec := "ringBack", plainKeys := false, apart := false }
def RingBackSaid : Prop := ringBackRow.holds Try.pinned (OpenSpec.ofChange ringBackSpec)

/-- ITS FALSE NEIGHBOUR: 'it returns false'. Refute it at one input. -/
def ringBackWrong : ChangeSpec := { name := "ringBack", fn := fun _ => fun
  | [d1, d2] => { results := [.lit (.bool false)], args := [d1, d2] }
  | _ => none }
def RingBackWrongFalsely : Prop := ringBackRow.holds Try.pinned (OpenSpec.ofChange ringBackWrong)

/-- 'porpoiselaw04.RingRemoves': WHATEVER THE INPUT: true; the input reads as it did. -/
def ringRemovesSpec : ChangeSpec := { name := "ringRemoves", fn := fun _ => fun
  | [d1, d2] => { results := [.lit (.bool true)], args := [d1, d2] }
  | _ => none }
def ringRemovesRow : OpenClaim := { program := "ythbhkmhmiplikaa", sum := "b69abdb0f236359a5a59671b9eb64316f5b8c4942f63210abee0d06ecb238cd7", func := "porpoise/porpoiselaw04.RingRemoves", spec := "ringRemoves", plainKeys := false, apart := false }
def RingRemovesSaid : Prop := ringRemovesRow.holds Try.pinned (OpenSpec.ofChange ringRemovesSpec)

/-- ITS FALSE NEIGHBOUR: 'it returns false'. Refute it at one input. -/
def ringRemovesWrong : ChangeSpec := { name := "ringRemoves", fn := fun _ => fun
  | [d1, d2] => { results := [.lit (.bool false)], args := [d1, d2] }
  | _ => none }
def RingRemovesWrongFalsely : Prop := ringRemovesRow.holds Try.pinned (OpenSpec.ofChange ringRemovesWrong)

/-- 'porpoiselaw04.RingApart': WHATEVER THE INPUT: true; the input reads as it did. -/
def ringApartSpec : ChangeSpec := { name := "ringApart", fn := fun _ => fun
  | [d] => { results := [.lit (.bool true)], args := [d] }
  | _ => none }
def ringApartRow : OpenClaim := { program := "ythbhkmhmiplikaa", sum := "b69abdb0f236359a5a59671b9eb64316f5b8c4942f63210abee0d06ecb238cd7", func := "porpoise/porpoiselaw04.RingApart", spec := "ringApart", plainKeys := false, apart := false }
def RingApartSaid : Prop := ringApartRow.holds Try.pinned (OpenSpec.ofChange ringApartSpec)

/-- ITS FALSE NEIGHBOUR: 'it returns false'. Refute it at one input. -/
def ringApartWrong : ChangeSpec := { name := "ringApart", fn := fun _ => fun
  | [d] => { results := [.lit (.bool false)], args := [d] }
  | _ => none }
def RingApartWrongFalsely : Prop := ringApartRow.holds Try.pinned (OpenSpec.ofChange ringApartWrong)

/-- 'porpoiselaw04.RingNobody': WHATEVER THE INPUT: true; the input reads as it did. -/
def ringNobodySpec : ChangeSpec := { name := "ringNobody", fn := fun _ => fun
  | [d] => { results := [.lit (.bool true)], args := [d] }
  | _ => none }
def ringNobodyRow : OpenClaim := { program := "ythbhkmhmiplikaa", sum := "b69abdb0f236359a5a59671b9eb64316f5b8c4942f63210abee0d06ecb238cd7", func := "porpoise/porpoiselaw04.RingNobody", spec := "ringNobody", plainKeys := false, apart := false }
def RingNobodySaid : Prop := ringNobodyRow.holds Try.pinned (OpenSpec.ofChange ringNobodySpec)

/-- ITS FALSE NEIGHBOUR: 'it returns false'. Refute it at one input. -/
def ringNobodyWrong : ChangeSpec := { name := "ringNobody", fn := fun _ => fun
  | [d] => { results := [.lit (.bool false)], args := [d] }
  | _ => none }
def RingNobodyWrongFalsely : Prop := ringNobodyRow.holds Try.pinned (OpenSpec.ofChange ringNobodyWrong)

/-- 'porpoiselaw10.BulkPlays': WHATEVER THE INPUT: true; the input reads as it did. -/
def bulkPlaysSpec : ChangeSpec := { name := "bulkPlays", fn := fun _ => fun
  | [d1, d2, d3] => { results := [.lit (.bool true)], args := [d1, d2, d3] }
  | _ => none }
def bulkPlaysRow : OpenClaim := { program := "ythbhkmhmiplikaa", sum := "b69abdb0f236359a5a59671b9eb64316f5b8c4942f63210abee0d06ecb238cd7", func := "porpoise/porpoiselaw10.BulkPlays", spec := "bulkPlays", plainKeys := false, apart := false }
def BulkPlaysSaid : Prop := bulkPlaysRow.holds Try.pinned (OpenSpec.ofChange bulkPlaysSpec)

/-- ITS FALSE NEIGHBOUR: 'it returns false'. Refute it at one input. -/
def bulkPlaysWrong : ChangeSpec := { name := "bulkPlays", fn := fun _ => fun
  | [d1, d2, d3] => { results := [.lit (.bool false)], args := [d1, d2, d3] }
  | _ => none }
def BulkPlaysWrongFalsely : Prop := bulkPlaysRow.holds Try.pinned (OpenSpec.ofChange bulkPlaysWrong)

/-- 'porpoiselaw10.BulkBounds': WHATEVER THE INPUT: true; the input reads as it did. -/
def bulkBoundsSpec : ChangeSpec := { name := "bulkBounds", fn := fun _ => fun
  | [d1, d2, d3] => { results := [.lit (.bool true)], args := [d1, d2, d3] }
  | _ => none }
def bulkBoundsRow : OpenClaim := { program := "ythbhkmhmiplikaa", sum := "b69abdb0f236359a5a59671b9eb64316f5b8c4942f63210abee0d06ecb238cd7", func := "porpoise/porpoiselaw10.BulkBounds", spec := "bulkBounds", plainKeys := false, apart := false }
def BulkBoundsSaid : Prop := bulkBoundsRow.holds Try.pinned (OpenSpec.ofChange bulkBoundsSpec)

/-- ITS FALSE NEIGHBOUR: 'it returns false'. Refute it at one input. -/
def bulkBoundsWrong : ChangeSpec := { name := "bulkBounds", fn := fun _ => fun
  | [d1, d2, d3] => { results := [.lit (.bool false)], args := [d1, d2, d3] }
  | _ => none }
def BulkBoundsWrongFalsely : Prop := bulkBoundsRow.holds Try.pinned (OpenSpec.ofChange bulkBoundsWrong)

/-- 'porpoiselaw10.BulkRefuses': WHATEVER THE INPUT: true; the input reads as it did. -/
def bulkRefusesSpec : ChangeSpec := { name := "bulkRefuses", fn := fun _ => fun
  | [d1, d2, d3] => { results := [.lit (.bool true)], args := [d1, d2, d3] }
  | _ => none }
def bulkRefusesRow : OpenClaim := { program := "ythbhkmhmiplikaa", sum := "b69abdb0f236359a5a59671b9eb64316f5b8c4942f63210abee0d06ecb238cd7", func := "porpoise/porpoiselaw10.BulkRefuses", spec := "bulkRefuses", plainKeys := false, apart := false }
def BulkRefusesSaid : Prop := bulkRefusesRow.holds Try.pinned (OpenSpec.ofChange bulkRefusesSpec)

/-- ITS FALSE NEIGHBOUR: 'it returns false'. Refute it at one input. -/
def bulkRefusesWrong : ChangeSpec := { name := "bulkRefuses", fn := fun _ => fun
  | [d1, d2, d3] => { results := [.lit (.bool false)], args := [d1, d2, d3] }
  | _ => none }
def BulkRefusesWrongFalsely : Prop := bulkRefusesRow.holds Try.pinned (OpenSpec.ofChange bulkRefusesWrong)

/-- 'porpoiselaw10.BulkTurn': WHATEVER THE INPUT: true; the input reads as it did. -/
def bulkTurnSpec : ChangeSpec := { name := "bulkTurn", fn := fun _ => fun
  | [d1, d2] => { results := [.lit (.bool true)], args := [d1, d2] }
  | _ => none }
def bulkTurnRow : OpenClaim := { program := "ythbhkmhmiplikaa", sum := "b69abdb0f236359a5a59671b9eb64316f5b8c4942f63210abee0d06ecb238cd7", func := "porpoise/porpoiselaw10.BulkTurn", spec := "bulkTurn", plainKeys := false, apart := false }
def BulkTurnSaid : Prop := bulkTurnRow.holds Try.pinned (OpenSpec.ofChange bulkTurnSpec)

/-- ITS FALSE NEIGHBOUR: 'it returns false'. Refute it at one input. -/
def bulkTurnWrong : ChangeSpec := { name := "bulkTurn", fn := fun _ => fun
  | [d1, d2] => { results := [.lit (.bool false)], args := [d1, d2] }
  | _ => none }
def BulkTurnWrongFalsely : Prop := bulkTurnRow.holds Try.pinned (OpenSpec.ofChange bulkTurnWrong)

/-- 'porpoiselaw10.BulkLeaves': WHATEVER THE INPUT: true; the input reads as it did. -/
def bulkLeavesSpec : ChangeSpec := { name := "bulkLeaves", fn := fun _ => fun
  | [d1, d2, d3] => { results := [.lit (.bool true)], args := [d1, d2, d3] }
  | _ => none }
def bulkLeavesRow : OpenClaim := { program := "ythbhkmhmiplikaa", sum := "b69abdb0f236359a5a59671b9eb64316f5b8c4942f63210abee0d06ecb238cd7", func := "porpoise/porpoiselaw10.BulkLeaves", spec := "bulkLeaves", plainKeys := false, apart := false }
def BulkLeavesSaid : Prop := bulkLeavesRow.holds Try.pinned (OpenSpec.ofChange bulkLeavesSpec)

/-- ITS FALSE NEIGHBOUR: 'it returns false'. Refute it at one input. -/
def bulkLeavesWrong : ChangeSpec := { name := "bulkLeaves", fn := fun _ => fun
  | [d1, d2, d3] => { results := [.lit (.bool false)], args := [d1, d2, d3] }
  | _ => none }
def BulkLeavesWrongFalsely : Prop := bulkLeavesRow.holds Try.pinned (OpenSpec.ofChange bulkLeavesWrong)

/-- 'porpoiselaw10.BulkNobody': WHATEVER THE INPUT: true; the input reads as it did. -/
def bulkNobodySpec : ChangeSpec := { name := "bulkNobody", fn := fun _ => fun
  | [d1, d2] => { results := [.lit (.bool true)], args := [d1, d2] }
  | _ => none }
def bulkNobodyRow : OpenClaim := { program := "ythbhkmhmiplikaa", sum := "b69abdb0f236359a5a59671b9eb64316f5b8c4942f63210abee0d06ecb238cd7", func := "porpoise/porpoiselaw10.BulkNobody", spec := "bulkNobody", plainKeys := false, apart := false }
def BulkNobodySaid : Prop := bulkNobodyRow.holds Try.pinned (OpenSpec.ofChange bulkNobodySpec)

/-- ITS FALSE NEIGHBOUR: 'it returns false'. Refute it at one input. -/
def bulkNobodyWrong : ChangeSpec := { name := "bulkNobody", fn := fun _ => fun
  | [d1, d2] => { results := [.lit (.bool false)], args := [d1, d2] }
  | _ => none }
def BulkNobodyWrongFalsely : Prop := bulkNobodyRow.holds Try.pinned (OpenSpec.ofChange bulkNobodyWrong)

/- THE SECOND FORM. 'bulk': how many values and letters a reading holds, each counted each time it is reached (what is shared counts as often as it is met; a slice's spare places count too). A statement '..UptoSaid' is the law's where the arguments, and the package variables that the reading takes, are together of bulk at most 1048576: NARROWER than '..Said'. Prove '..Said' where nothing that the law and all that it calls make is longer than what came in: it says more and counts as full. Else prove '..UptoSaid'. A law counts once. -/
mutual
def uptoBulk {H : Type} : DataW H → Nat
  | .lit (.string bytes) => bytes.length + 1
  | .lit _ => 1
  | .nil => 1
  | .ptr d => uptoBulk d + 1
  | .slice elems spare => uptoBulkAll elems + uptoBulkAll spare + 1
  | .agg parts => uptoBulkAll parts + 1
  | .iface _ d => uptoBulk d + 1
  | .map entries => uptoBulkEntries entries + 1
  | .held _ => 1
def uptoBulkAll {H : Type} : List (DataW H) → Nat
  | [] => 0
  | d :: r => uptoBulk d + uptoBulkAll r
def uptoBulkEntries {H : Type} : List (Lit × DataW H) → Nat
  | [] => 0
  | x :: r => uptoBulkEntry x + uptoBulkEntries r
def uptoBulkEntry {H : Type} : Lit × DataW H → Nat
  | (.string bytes, d) => bytes.length + uptoBulk d + 1
  | (_, d) => uptoBulk d + 1
 end
def uptoSmall : (H : Type) → List (DataW H) → Bool := fun _ ds => decide (uptoBulkAll ds ≤ 1048576)
def OpenSpec.upto (s : _root_.Go.ChangeSpec) : _root_.Go.OpenSpec := { _root_.Go.OpenSpec.ofChange s with cond := some uptoSmall }

/-- 'porpoiselaw04.RingPlays', WHERE WHAT IT READS IS OF BULK AT MOST 1048576: true; the input reads as it did. -/
def ringPlaysUptoRow : OpenClaim := { program := "ythbhkmhmiplikaa", sum := "b69abdb0f236359a5a59671b9eb64316f5b8c4942f63210abee0d06ecb238cd7", func := "porpoise/porpoiselaw04.RingPlays", spec := "ringPlays", plainKeys := false, apart := false, narrowed := true }
def RingPlaysUptoSaid : Prop := ringPlaysUptoRow.holds Try.pinned (OpenSpec.upto ringPlaysSpec)

/-- 'porpoiselaw04.RingTurn', WHERE WHAT IT READS IS OF BULK AT MOST 1048576: true; the input reads as it did. -/
def ringTurnUptoRow : OpenClaim := { program := "ythbhkmhmiplikaa", sum := "b69abdb0f236359a5a59671b9eb64316f5b8c4942f63210abee0d06ecb238cd7", func := "porpoise/porpoiselaw04.RingTurn", spec := "ringTurn", plainKeys := false, apart := false, narrowed := true }
def RingTurnUptoSaid : Prop := ringTurnUptoRow.holds Try.pinned (OpenSpec.upto ringTurnSpec)

/-- 'porpoiselaw04.RingBack', WHERE WHAT IT READS IS OF BULK AT MOST 1048576: true; the input reads as it did. -/
def ringBackUptoRow : OpenClaim := { program := "ythbhkmhmiplikaa", sum := "b69abdb0f236359a5a59671b9eb64316f5b8c4942f63210abee0d06ecb238cd7", func := "porpoise/porpoiselaw04.RingBack", spec := "ringBack", plainKeys := false, apart := false, narrowed := true }
def RingBackUptoSaid : Prop := ringBackUptoRow.holds Try.pinned (OpenSpec.upto ringBackSpec)

/-- 'porpoiselaw04.RingRemoves', WHERE WHAT IT READS IS OF BULK AT MOST 1048576: true; the input reads as it did. -/
def ringRemovesUptoRow : OpenClaim := { program := "ythbhkmhmiplikaa", sum := "b69abdb0f236359a5a59671b9eb64316f5b8c4942f63210abee0d06ecb238cd7", func := "porpoise/porpoiselaw04.RingRemoves", spec := "ringRemoves", plainKeys := false, apart := false, narrowed := true }
def RingRemovesUptoSaid : Prop := ringRemovesUptoRow.holds Try.pinned (OpenSpec.upto ringRemovesSpec)

/-- 'porpoiselaw04.RingApart', WHERE WHAT IT READS IS OF BULK AT MOST 1048576: true; the input reads as it did. -/
def ringApartUptoRow : OpenClaim := { program := "ythbhkmhmiplikaa", sum := "b69abdb0f236359a5a59671b9eb64316f5b8c4942f63210abee0d06ecb238cd7", func := "porpoise/porpoiselaw04.RingApart", spec := "ringApart", plainKeys := false, apart := false, narrowed := true }
def RingApartUptoSaid : Prop := ringApartUptoRow.holds Try.pinned (OpenSpec.upto ringApartSpec)

/-- 'porpoiselaw04.RingNobody', WHERE WHAT IT READS IS OF BULK AT MOST 1048576: true; the input reads as it did. -/
def ringNobodyUptoRow : OpenClaim := { program := "ythbhkmhmiplikaa", sum := "b69abdb0f236359a5a59671b9eb64316f5b8c4942f63210abee0d06ecb238cd7", func := "porpoise/porpoiselaw04.RingNobody", spec := "ringNobody", plainKeys := false, apart := false, narrowed := true }
def RingNobodyUptoSaid : Prop := ringNobodyUptoRow.holds Try.pinned (OpenSpec.upto ringNobodySpec)

/-- 'porpoiselaw10.BulkPlays', WHERE WHAT IT READS IS OF BULK AT MOST 1048576: true; the input reads as it did. -/
def bulkPlaysUptoRow : OpenClaim := { program := "ythbhkmhmiplikaa", sum := "b69abdb0f236359a5a59671b9eb64316f5b8c4942f63210abee0d06ecb238cd7", func := "porpoise/porpoiselaw10.BulkPlays", spec := "bulkPlays", plainKeys := false, apart := false, narrowed := true }
def BulkPlaysUptoSaid : Prop := bulkPlaysUptoRow.holds Try.pinned (OpenSpec.upto bulkPlaysSpec)

/-- 'porpoiselaw10.BulkBounds', WHERE WHAT IT READS IS OF BULK AT MOST 1048576: true; the input reads as it did. -/
def bulkBoundsUptoRow : OpenClaim := { program := "ythbhkmhmiplikaa", sum := "b69abdb0f236359a5a59671b9eb64316f5b8c4942f63210abee0d06ecb238cd7", func := "porpoise/porpoiselaw10.BulkBounds", spec := "bulkBounds", plainKeys := false, apart := false, narrowed := true }
def BulkBoundsUptoSaid : Prop := bulkBoundsUptoRow.holds Try.pinned (OpenSpec.upto bulkBoundsSpec)

/-- 'porpoiselaw10.BulkRefuses', WHERE WHAT IT READS IS OF BULK AT MOST 1048576: true; the input reads as it did. -/
def bulkRefusesUptoRow : OpenClaim := { program := "ythbhkmhmiplikaa", sum := "b69abdb0f236359a5a59671b9eb64316f5b8c4942f63210abee0d06ecb238cd7", func := "porpoise/porpoiselaw10.BulkRefuses", spec := "bulkRefuses", plainKeys := false, apart := false, narrowed := true }
def BulkRefusesUptoSaid : Prop := bulkRefusesUptoRow.holds Try.pinned (OpenSpec.upto bulkRefusesSpec)

/-- 'porpoiselaw10.BulkTurn', WHERE WHAT IT READS IS OF BULK AT MOST 1048576: true; the input reads as it did. -/
def bulkTurnUptoRow : OpenClaim := { program := "ythbhkmhmiplikaa", sum := "b69abdb0f236359a5a59671b9eb64316f5b8c4942f63210abee0d06ecb238cd7", func := "porpoise/porpoiselaw10.BulkTurn", spec := "bulkTurn", plainKeys := false, apart := false, narrowed := true }
def BulkTurnUptoSaid : Prop := bulkTurnUptoRow.holds Try.pinned (OpenSpec.upto bulkTurnSpec)

/-- 'porpoiselaw10.BulkLeaves', WHERE WHAT IT READS IS OF BULK AT MOST 1048576: true; the input reads as it did. -/
def bulkLeavesUptoRow : OpenClaim := { program := "ythbhkmhmiplikaa", sum := "b69abdb0f236359a5a59671b9eb64316f5b8c4942f63210abee0d06ecb238cd7", func := "porpoise/porpoiselaw10.BulkLeaves", spec := "bulkLeaves", plainKeys := false, apart := false, narrowed := true }
def BulkLeavesUptoSaid : Prop := bulkLeavesUptoRow.holds Try.pinned (OpenSpec.upto bulkLeavesSpec)

/-- 'porpoiselaw10.BulkNobody', WHERE WHAT IT READS IS OF BULK AT MOST 1048576: true; the input reads as it did. -/
def bulkNobodyUptoRow : OpenClaim := { program := "ythbhkmhmiplikaa", sum := "b69abdb0f236359a5a59671b9eb64316f5b8c4942f63210abee0d06ecb238cd7", func := "porpoise/porpoiselaw10.BulkNobody", spec := "bulkNobody", plainKeys := false, apart := false, narrowed := true }
def BulkNobodyUptoSaid : Prop := bulkNobodyUptoRow.holds Try.pinned (OpenSpec.upto bulkNobodySpec)

end Rows
end Go.Proofs.Ythbhkmhmiplikaa
