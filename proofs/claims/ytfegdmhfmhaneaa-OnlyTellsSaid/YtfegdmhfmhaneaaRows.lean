/-
  No cell of these rows narrows 'for every input' (looked for: loops, veiled, ifaces, maps, wideKeys, modest, calm, conditions, laid).
  DERIVED. THE GIVEN ROWS OF THIS SEAT. 4 by the template 'for every input the law returns true; each argument reads behind the call as it read before'; 0 by the template 'total and deterministic' (their statements: YtfegdmhfmhaneaaTotals.lean).
  GIVEN WITH THE SEED: the statements are not yours to turn. If you find one false, say at which input.
  Laid BY PROGRAM, IN A SANDBOX (cutbox-rows.mjs): the forced cells as the released guide's own fill.sh prints them over the translation 8ae03cb6eb445fce… (all of the seat's roots in one cut). By AI agents, Wed Nov 11 2026. No macro, syntax, notation, axiom, sorry.
-/
import Derived.Test.YtfegdmhfmhaneaaChecked
import GoSem.Claim
import GoSem.ClaimJoined
import GoSem.ClaimMapViews
import Derived.JoinedTies
import Derived.KernelRfl
namespace Go.Proofs.Ytfegdmhfmhaneaa
/- THE CELL 'sum', in the pinned program and in every row, IS THE sha256 OF THE DUMP (.gsa) THAT YtfegdmhfmhaneaaProg.lean LOADS. Nothing in Lean hashes anything: it is a label: what it is worth is what the hold of that sum in a sandbox is worth. -/
noncomputable def Try.pinned : Pinned := { name := "ytfegdmhfmhaneaa", sum := "8ae03cb6eb445fcef85c581ae72ead1df2d83dbd4e2d5fec4c09182820e13788", checked := Try.checked }
namespace Rows
def none {H : Type} : Left H := { results := [], args := [] }

/-- 'porpoiselaw21.OnlyTells': WHATEVER THE INPUT: true; the input reads as it did. -/
def onlyTellsSpec : ChangeSpec := { name := "onlyTells", fn := fun _ => fun
  | [d1, d2, d3] => { results := [.lit (.bool true)], args := [d1, d2, d3] }
  | _ => none }
def onlyTellsRow : OpenClaim := { program := "ytfegdmhfmhaneaa", sum := "8ae03cb6eb445fcef85c581ae72ead1df2d83dbd4e2d5fec4c09182820e13788", func := "porpoise/porpoiselaw21.OnlyTells", spec := "onlyTells", unfollowed := true, recurses := true, apart := false }
def OnlyTellsSaid : Prop := onlyTellsRow.holds Try.pinned (OpenSpec.ofChange onlyTellsSpec)

/-- ITS FALSE NEIGHBOUR: 'it returns false'. Refute it at one input. -/
def onlyTellsWrong : ChangeSpec := { name := "onlyTells", fn := fun _ => fun
  | [d1, d2, d3] => { results := [.lit (.bool false)], args := [d1, d2, d3] }
  | _ => none }
def OnlyTellsWrongFalsely : Prop := onlyTellsRow.holds Try.pinned (OpenSpec.ofChange onlyTellsWrong)

/-- 'porpoiselaw21.OnlyAgain': WHATEVER THE INPUT: true; the input reads as it did. -/
def onlyAgainSpec : ChangeSpec := { name := "onlyAgain", fn := fun _ => fun
  | [d1, d2, d3] => { results := [.lit (.bool true)], args := [d1, d2, d3] }
  | _ => none }
def onlyAgainRow : OpenClaim := { program := "ytfegdmhfmhaneaa", sum := "8ae03cb6eb445fcef85c581ae72ead1df2d83dbd4e2d5fec4c09182820e13788", func := "porpoise/porpoiselaw21.OnlyAgain", spec := "onlyAgain", unfollowed := true, recurses := true, apart := false }
def OnlyAgainSaid : Prop := onlyAgainRow.holds Try.pinned (OpenSpec.ofChange onlyAgainSpec)

/-- ITS FALSE NEIGHBOUR: 'it returns false'. Refute it at one input. -/
def onlyAgainWrong : ChangeSpec := { name := "onlyAgain", fn := fun _ => fun
  | [d1, d2, d3] => { results := [.lit (.bool false)], args := [d1, d2, d3] }
  | _ => none }
def OnlyAgainWrongFalsely : Prop := onlyAgainRow.holds Try.pinned (OpenSpec.ofChange onlyAgainWrong)

/-- 'porpoiselaw21.OnlyKeeps': WHATEVER THE INPUT: true; the input reads as it did. -/
def onlyKeepsSpec : ChangeSpec := { name := "onlyKeeps", fn := fun _ => fun
  | [d1, d2, d3] => { results := [.lit (.bool true)], args := [d1, d2, d3] }
  | _ => none }
def onlyKeepsRow : OpenClaim := { program := "ytfegdmhfmhaneaa", sum := "8ae03cb6eb445fcef85c581ae72ead1df2d83dbd4e2d5fec4c09182820e13788", func := "porpoise/porpoiselaw21.OnlyKeeps", spec := "onlyKeeps", unfollowed := true, recurses := true, apart := false }
def OnlyKeepsSaid : Prop := onlyKeepsRow.holds Try.pinned (OpenSpec.ofChange onlyKeepsSpec)

/-- ITS FALSE NEIGHBOUR: 'it returns false'. Refute it at one input. -/
def onlyKeepsWrong : ChangeSpec := { name := "onlyKeeps", fn := fun _ => fun
  | [d1, d2, d3] => { results := [.lit (.bool false)], args := [d1, d2, d3] }
  | _ => none }
def OnlyKeepsWrongFalsely : Prop := onlyKeepsRow.holds Try.pinned (OpenSpec.ofChange onlyKeepsWrong)

/-- 'porpoiselaw21.OnlyNobody': WHATEVER THE INPUT: true; the input reads as it did. -/
def onlyNobodySpec : ChangeSpec := { name := "onlyNobody", fn := fun _ => fun
  | [d1, d2] => { results := [.lit (.bool true)], args := [d1, d2] }
  | _ => none }
def onlyNobodyRow : OpenClaim := { program := "ytfegdmhfmhaneaa", sum := "8ae03cb6eb445fcef85c581ae72ead1df2d83dbd4e2d5fec4c09182820e13788", func := "porpoise/porpoiselaw21.OnlyNobody", spec := "onlyNobody", unfollowed := true, recurses := true, apart := false }
def OnlyNobodySaid : Prop := onlyNobodyRow.holds Try.pinned (OpenSpec.ofChange onlyNobodySpec)

/-- ITS FALSE NEIGHBOUR: 'it returns false'. Refute it at one input. -/
def onlyNobodyWrong : ChangeSpec := { name := "onlyNobody", fn := fun _ => fun
  | [d1, d2] => { results := [.lit (.bool false)], args := [d1, d2] }
  | _ => none }
def OnlyNobodyWrongFalsely : Prop := onlyNobodyRow.holds Try.pinned (OpenSpec.ofChange onlyNobodyWrong)

/- THE SECOND FORM. 'bulk': how many values and letters a reading holds, each counted each time it is reached (what is shared counts as often as it is met; a slice's spare places count too). A statement '..UptoSaid' is the law's where the arguments, and the package variables that the reading takes, are together of bulk at most 1048576: NARROWER than '..Said'. Prove '..Said' where nothing that the law and all that it calls make is longer than what came in: it says more and counts as full. Else prove '..UptoSaid'. A law counts once. -/
mutual
def uptoBulk {H : Type} : DataW H → Nat
  | .lit (.string bytes) => bytes.length + 1
  | .lit _ => 1
  | .nil => 1
  | .ptr d => uptoBulk d + 1
  | .slice elems spare => uptoBulkAll elems + uptoBulkAll spare + 1
  | .agg parts => uptoBulkAll parts + 1
  | .iface _ d => uptoBulk d + 1
  | .map entries => uptoBulkEntries entries + 1
  | .held _ => 1
def uptoBulkAll {H : Type} : List (DataW H) → Nat
  | [] => 0
  | d :: r => uptoBulk d + uptoBulkAll r
def uptoBulkEntries {H : Type} : List (Lit × DataW H) → Nat
  | [] => 0
  | x :: r => uptoBulkEntry x + uptoBulkEntries r
def uptoBulkEntry {H : Type} : Lit × DataW H → Nat
  | (.string bytes, d) => bytes.length + uptoBulk d + 1
  | (_, d) => uptoBulk d + 1
 end
def uptoSmall : (H : Type) → List (DataW H) → Bool := fun _ ds => decide (uptoBulkAll ds ≤ 1048576)
def OpenSpec.upto (s : _root_.Go.ChangeSpec) : _root_.Go.OpenSpec := { _root_.Go.OpenSpec.ofChange s with cond := some uptoSmall }

/-- 'porpoiselaw21.OnlyTells', WHERE WHAT IT READS IS OF BULK AT MOST 1048576: true; the input reads as it did. -/
def onlyTellsUptoRow : OpenClaim := { program := "ytfegdmhfmhaneaa", sum := "8ae03cb6eb445fcef85c581ae72ead1df2d83dbd4e2d5fec4c09182820e13788", func := "porpoise/porpoiselaw21.OnlyTells", spec := "onlyTells", unfollowed := true, recurses := true, apart := false, narrowed := true }
def OnlyTellsUptoSaid : Prop := onlyTellsUptoRow.holds Try.pinned (OpenSpec.upto onlyTellsSpec)

/-- 'porpoiselaw21.OnlyAgain', WHERE WHAT IT READS IS OF BULK AT MOST 1048576: true; the input reads as it did. -/
def onlyAgainUptoRow : OpenClaim := { program := "ytfegdmhfmhaneaa", sum := "8ae03cb6eb445fcef85c581ae72ead1df2d83dbd4e2d5fec4c09182820e13788", func := "porpoise/porpoiselaw21.OnlyAgain", spec := "onlyAgain", unfollowed := true, recurses := true, apart := false, narrowed := true }
def OnlyAgainUptoSaid : Prop := onlyAgainUptoRow.holds Try.pinned (OpenSpec.upto onlyAgainSpec)

/-- 'porpoiselaw21.OnlyKeeps', WHERE WHAT IT READS IS OF BULK AT MOST 1048576: true; the input reads as it did. -/
def onlyKeepsUptoRow : OpenClaim := { program := "ytfegdmhfmhaneaa", sum := "8ae03cb6eb445fcef85c581ae72ead1df2d83dbd4e2d5fec4c09182820e13788", func := "porpoise/porpoiselaw21.OnlyKeeps", spec := "onlyKeeps", unfollowed := true, recurses := true, apart := false, narrowed := true }
def OnlyKeepsUptoSaid : Prop := onlyKeepsUptoRow.holds Try.pinned (OpenSpec.upto onlyKeepsSpec)

/-- 'porpoiselaw21.OnlyNobody', WHERE WHAT IT READS IS OF BULK AT MOST 1048576: true; the input reads as it did. -/
def onlyNobodyUptoRow : OpenClaim := { program := "ytfegdmhfmhaneaa", sum := "8ae03cb6eb445fcef85c581ae72ead1df2d83dbd4e2d5fec4c09182820e13788", func := "porpoise/porpoiselaw21.OnlyNobody", spec := "onlyNobody", unfollowed := true, recurses := true, apart := false, narrowed := true }
def OnlyNobodyUptoSaid : Prop := onlyNobodyUptoRow.holds Try.pinned (OpenSpec.upto onlyNobodySpec)

end Rows
end Go.Proofs.Ytfegdmhfmhaneaa
