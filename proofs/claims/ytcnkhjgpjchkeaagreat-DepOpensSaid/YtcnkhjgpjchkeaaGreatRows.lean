/-
  No cell of these rows narrows 'for every input' (looked for: loops, veiled, ifaces, maps, wideKeys, modest, calm, conditions, laid).
  DERIVED. THE GIVEN ROWS OF THIS SEAT. 4 by the template 'for every input the law returns true; each argument reads behind the call as it read before'; 0 by the template 'total and deterministic' (their statements: YtcnkhjgpjchkeaaGreatTotals.lean).
  GIVEN WITH THE SEED: the statements are not yours to turn. If you find one false, say at which input.
  Laid BY PROGRAM, IN A SANDBOX (cutbox-rows.mjs): the forced cells as the released guide's own fill.sh prints them over the translation 27b8ec9508bba517… (all of the seat's roots in one cut). By AI agents, Wed Nov 11 2026. No macro, syntax, notation, axiom, sorry.
-/
import Derived.Test.YtcnkhjgpjchkeaaGreatChecked
import GoSem.Claim
import GoSem.ClaimJoined
import GoSem.ClaimMapViews
import Derived.JoinedTies
import Derived.KernelRfl
namespace Go.Proofs.YtcnkhjgpjchkeaaGreat
/- THE CELL 'sum', in the pinned program and in every row, IS THE sha256 OF THE DUMP (.gsa) THAT YtcnkhjgpjchkeaaGreatProg.lean LOADS. Nothing in Lean hashes anything: it is a label: what it is worth is what the hold of that sum in a sandbox is worth. -/
noncomputable def Tryz.pinned : Pinned := { name := "ytcnkhjgpjchkeaagreat", sum := "27b8ec9508bba5172480e79640a7afa8fc7581ecaaf5246b2f77262ef8523dc3", checked := Tryz.checked }
namespace Rows
def none {H : Type} : Left H := { results := [], args := [] }

/-- 'porpoiselaw17.DepPlays': WHATEVER THE INPUT: true; the input reads as it did. -/
def depPlaysSpec : ChangeSpec := { name := "depPlays", fn := fun _ => fun
  | [d1, d2] => { results := [.lit (.bool true)], args := [d1, d2] }
  | _ => none }
def depPlaysRow : OpenClaim := { program := "ytcnkhjgpjchkeaagreat", sum := "27b8ec9508bba5172480e79640a7afa8fc7581ecaaf5246b2f77262ef8523dc3", func := "porpoise/porpoiselaw17.DepPlays", spec := "depPlays", plainKeys := false, apart := false }
def DepPlaysSaid : Prop := depPlaysRow.holds Tryz.pinned (OpenSpec.ofChange depPlaysSpec)

/-- ITS FALSE NEIGHBOUR: 'it returns false'. Refute it at one input. -/
def depPlaysWrong : ChangeSpec := { name := "depPlays", fn := fun _ => fun
  | [d1, d2] => { results := [.lit (.bool false)], args := [d1, d2] }
  | _ => none }
def DepPlaysWrongFalsely : Prop := depPlaysRow.holds Tryz.pinned (OpenSpec.ofChange depPlaysWrong)

/-- 'porpoiselaw17.DepLate': WHATEVER THE INPUT: true; the input reads as it did. -/
def depLateSpec : ChangeSpec := { name := "depLate", fn := fun _ => fun
  | [d1, d2, d3] => { results := [.lit (.bool true)], args := [d1, d2, d3] }
  | _ => none }
def depLateRow : OpenClaim := { program := "ytcnkhjgpjchkeaagreat", sum := "27b8ec9508bba5172480e79640a7afa8fc7581ecaaf5246b2f77262ef8523dc3", func := "porpoise/porpoiselaw17.DepLate", spec := "depLate", plainKeys := false, apart := false }
def DepLateSaid : Prop := depLateRow.holds Tryz.pinned (OpenSpec.ofChange depLateSpec)

/-- ITS FALSE NEIGHBOUR: 'it returns false'. Refute it at one input. -/
def depLateWrong : ChangeSpec := { name := "depLate", fn := fun _ => fun
  | [d1, d2, d3] => { results := [.lit (.bool false)], args := [d1, d2, d3] }
  | _ => none }
def DepLateWrongFalsely : Prop := depLateRow.holds Tryz.pinned (OpenSpec.ofChange depLateWrong)

/-- 'porpoiselaw17.DepOpens': WHATEVER THE INPUT: true; the input reads as it did. -/
def depOpensSpec : ChangeSpec := { name := "depOpens", fn := fun _ => fun
  | [d1, d2] => { results := [.lit (.bool true)], args := [d1, d2] }
  | _ => none }
def depOpensRow : OpenClaim := { program := "ytcnkhjgpjchkeaagreat", sum := "27b8ec9508bba5172480e79640a7afa8fc7581ecaaf5246b2f77262ef8523dc3", func := "porpoise/porpoiselaw17.DepOpens", spec := "depOpens", plainKeys := false, apart := false }
def DepOpensSaid : Prop := depOpensRow.holds Tryz.pinned (OpenSpec.ofChange depOpensSpec)

/-- ITS FALSE NEIGHBOUR: 'it returns false'. Refute it at one input. -/
def depOpensWrong : ChangeSpec := { name := "depOpens", fn := fun _ => fun
  | [d1, d2] => { results := [.lit (.bool false)], args := [d1, d2] }
  | _ => none }
def DepOpensWrongFalsely : Prop := depOpensRow.holds Tryz.pinned (OpenSpec.ofChange depOpensWrong)

/-- 'porpoiselaw17.DepOnce': WHATEVER THE INPUT: true; the input reads as it did. -/
def depOnceSpec : ChangeSpec := { name := "depOnce", fn := fun _ => fun
  | [d1, d2] => { results := [.lit (.bool true)], args := [d1, d2] }
  | _ => none }
def depOnceRow : OpenClaim := { program := "ytcnkhjgpjchkeaagreat", sum := "27b8ec9508bba5172480e79640a7afa8fc7581ecaaf5246b2f77262ef8523dc3", func := "porpoise/porpoiselaw17.DepOnce", spec := "depOnce", plainKeys := false, apart := false }
def DepOnceSaid : Prop := depOnceRow.holds Tryz.pinned (OpenSpec.ofChange depOnceSpec)

/-- ITS FALSE NEIGHBOUR: 'it returns false'. Refute it at one input. -/
def depOnceWrong : ChangeSpec := { name := "depOnce", fn := fun _ => fun
  | [d1, d2] => { results := [.lit (.bool false)], args := [d1, d2] }
  | _ => none }
def DepOnceWrongFalsely : Prop := depOnceRow.holds Tryz.pinned (OpenSpec.ofChange depOnceWrong)

/- THE SECOND FORM. 'bulk': how many values and letters a reading holds, each counted each time it is reached (what is shared counts as often as it is met; a slice's spare places count too). A statement '..UptoSaid' is the law's where the arguments, and the package variables that the reading takes, are together of bulk at most 1048576: NARROWER than '..Said'. Prove '..Said' where nothing that the law and all that it calls make is longer than what came in: it says more and counts as full. Else prove '..UptoSaid'. A law counts once. -/
mutual
def uptoBulk {H : Type} : DataW H → Nat
  | .lit (.string bytes) => bytes.length + 1
  | .lit _ => 1
  | .nil => 1
  | .ptr d => uptoBulk d + 1
  | .slice elems spare => uptoBulkAll elems + uptoBulkAll spare + 1
  | .agg parts => uptoBulkAll parts + 1
  | .iface _ d => uptoBulk d + 1
  | .map entries => uptoBulkEntries entries + 1
  | .held _ => 1
def uptoBulkAll {H : Type} : List (DataW H) → Nat
  | [] => 0
  | d :: r => uptoBulk d + uptoBulkAll r
def uptoBulkEntries {H : Type} : List (Lit × DataW H) → Nat
  | [] => 0
  | x :: r => uptoBulkEntry x + uptoBulkEntries r
def uptoBulkEntry {H : Type} : Lit × DataW H → Nat
  | (.string bytes, d) => bytes.length + uptoBulk d + 1
  | (_, d) => uptoBulk d + 1
 end
def uptoSmall : (H : Type) → List (DataW H) → Bool := fun _ ds => decide (uptoBulkAll ds ≤ 1048576)
def OpenSpec.upto (s : _root_.Go.ChangeSpec) : _root_.Go.OpenSpec := { _root_.Go.OpenSpec.ofChange s with cond := some uptoSmall }

/-- 'porpoiselaw17.DepPlays', WHERE WHAT IT READS IS OF BULK AT MOST 1048576: true; the input reads as it did. -/
def depPlaysUptoRow : OpenClaim := { program := "ytcnkhjgpjchkeaagreat", sum := "27b8ec9508bba5172480e79640a7afa8fc7581ecaaf5246b2f77262ef8523dc3", func := "porpoise/porpoiselaw17.DepPlays", spec := "depPlays", plainKeys := false, apart := false, narrowed := true }
def DepPlaysUptoSaid : Prop := depPlaysUptoRow.holds Tryz.pinned (OpenSpec.upto depPlaysSpec)

/-- 'porpoiselaw17.DepLate', WHERE WHAT IT READS IS OF BULK AT MOST 1048576: true; the input reads as it did. -/
def depLateUptoRow : OpenClaim := { program := "ytcnkhjgpjchkeaagreat", sum := "27b8ec9508bba5172480e79640a7afa8fc7581ecaaf5246b2f77262ef8523dc3", func := "porpoise/porpoiselaw17.DepLate", spec := "depLate", plainKeys := false, apart := false, narrowed := true }
def DepLateUptoSaid : Prop := depLateUptoRow.holds Tryz.pinned (OpenSpec.upto depLateSpec)

/-- 'porpoiselaw17.DepOpens', WHERE WHAT IT READS IS OF BULK AT MOST 1048576: true; the input reads as it did. -/
def depOpensUptoRow : OpenClaim := { program := "ytcnkhjgpjchkeaagreat", sum := "27b8ec9508bba5172480e79640a7afa8fc7581ecaaf5246b2f77262ef8523dc3", func := "porpoise/porpoiselaw17.DepOpens", spec := "depOpens", plainKeys := false, apart := false, narrowed := true }
def DepOpensUptoSaid : Prop := depOpensUptoRow.holds Tryz.pinned (OpenSpec.upto depOpensSpec)

/-- 'porpoiselaw17.DepOnce', WHERE WHAT IT READS IS OF BULK AT MOST 1048576: true; the input reads as it did. -/
def depOnceUptoRow : OpenClaim := { program := "ytcnkhjgpjchkeaagreat", sum := "27b8ec9508bba5172480e79640a7afa8fc7581ecaaf5246b2f77262ef8523dc3", func := "porpoise/porpoiselaw17.DepOnce", spec := "depOnce", plainKeys := false, apart := false, narrowed := true }
def DepOnceUptoSaid : Prop := depOnceUptoRow.holds Tryz.pinned (OpenSpec.upto depOnceSpec)

end Rows
end Go.Proofs.YtcnkhjgpjchkeaaGreat
