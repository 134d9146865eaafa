/-
  No cell of these rows narrows 'for every input' (looked for: loops, veiled, ifaces, maps, wideKeys, modest, calm, conditions, laid).
  DERIVED. THE GIVEN ROWS OF THIS SEAT. 3 by the template 'for every input the law returns true; each argument reads behind the call as it read before'; 0 by the template 'total and deterministic' (their statements: YtcnkhjgpjchkeaaTotals.lean).
  GIVEN WITH THE SEED: the statements are not yours to turn. If you find one false, say at which input.
  Laid BY PROGRAM, IN A SANDBOX (cutbox-rows.mjs): the forced cells as the released guide's own fill.sh prints them over the translation 75edbc4aff2e0b0b… (all of the seat's roots in one cut). By AI agents, Wed Nov 11 2026. No macro, syntax, notation, axiom, sorry.
-/
import Derived.Test.YtcnkhjgpjchkeaaChecked
import GoSem.Claim
import GoSem.ClaimJoined
import GoSem.ClaimMapViews
import Derived.JoinedTies
import Derived.KernelRfl
namespace Go.Proofs.Ytcnkhjgpjchkeaa
/- THE CELL 'sum', in the pinned program and in every row, IS THE sha256 OF THE DUMP (.gsa) THAT YtcnkhjgpjchkeaaProg.lean LOADS. Nothing in Lean hashes anything: it is a label: what it is worth is what the hold of that sum in a sandbox is worth. -/
noncomputable def Try.pinned : Pinned := { name := "ytcnkhjgpjchkeaa", sum := "75edbc4aff2e0b0b00a8a0af893181e128fbba93bfefc05c756b1d9188a23835", checked := Try.checked }
namespace Rows
def none {H : Type} : Left H := { results := [], args := [] }

/-- 'porpoiselaw17.DepBounds': WHATEVER THE INPUT: true; the input reads as it did. -/
def depBoundsSpec : ChangeSpec := { name := "depBounds", fn := fun _ => fun
  | [d1, d2] => { results := [.lit (.bool true)], args := [d1, d2] }
  | _ => none }
def depBoundsRow : OpenClaim := { program := "ytcnkhjgpjchkeaa", sum := "75edbc4aff2e0b0b00a8a0af893181e128fbba93bfefc05c756b1d9188a23835", func := "porpoise/porpoiselaw17.DepBounds", spec := "depBounds", plainKeys := false, apart := false }
def DepBoundsSaid : Prop := depBoundsRow.holds Try.pinned (OpenSpec.ofChange depBoundsSpec)

/-- ITS FALSE NEIGHBOUR: 'it returns false'. Refute it at one input. -/
def depBoundsWrong : ChangeSpec := { name := "depBounds", fn := fun _ => fun
  | [d1, d2] => { results := [.lit (.bool false)], args := [d1, d2] }
  | _ => none }
def DepBoundsWrongFalsely : Prop := depBoundsRow.holds Try.pinned (OpenSpec.ofChange depBoundsWrong)

/-- 'porpoiselaw17.DepProbe': WHATEVER THE INPUT: true; the input reads as it did. -/
def depProbeSpec : ChangeSpec := { name := "depProbe", fn := fun _ => fun
  | [d1, d2] => { results := [.lit (.bool true)], args := [d1, d2] }
  | _ => none }
def depProbeRow : OpenClaim := { program := "ytcnkhjgpjchkeaa", sum := "75edbc4aff2e0b0b00a8a0af893181e128fbba93bfefc05c756b1d9188a23835", func := "porpoise/porpoiselaw17.DepProbe", spec := "depProbe", plainKeys := false, apart := false }
def DepProbeSaid : Prop := depProbeRow.holds Try.pinned (OpenSpec.ofChange depProbeSpec)

/-- ITS FALSE NEIGHBOUR: 'it returns false'. Refute it at one input. -/
def depProbeWrong : ChangeSpec := { name := "depProbe", fn := fun _ => fun
  | [d1, d2] => { results := [.lit (.bool false)], args := [d1, d2] }
  | _ => none }
def DepProbeWrongFalsely : Prop := depProbeRow.holds Try.pinned (OpenSpec.ofChange depProbeWrong)

/-- 'porpoiselaw17.DepNobody': WHATEVER THE INPUT: true; the input reads as it did. -/
def depNobodySpec : ChangeSpec := { name := "depNobody", fn := fun _ => fun
  | [d1, d2, d3] => { results := [.lit (.bool true)], args := [d1, d2, d3] }
  | _ => none }
def depNobodyRow : OpenClaim := { program := "ytcnkhjgpjchkeaa", sum := "75edbc4aff2e0b0b00a8a0af893181e128fbba93bfefc05c756b1d9188a23835", func := "porpoise/porpoiselaw17.DepNobody", spec := "depNobody", plainKeys := false, apart := false }
def DepNobodySaid : Prop := depNobodyRow.holds Try.pinned (OpenSpec.ofChange depNobodySpec)

/-- ITS FALSE NEIGHBOUR: 'it returns false'. Refute it at one input. -/
def depNobodyWrong : ChangeSpec := { name := "depNobody", fn := fun _ => fun
  | [d1, d2, d3] => { results := [.lit (.bool false)], args := [d1, d2, d3] }
  | _ => none }
def DepNobodyWrongFalsely : Prop := depNobodyRow.holds Try.pinned (OpenSpec.ofChange depNobodyWrong)

/- THE SECOND FORM. 'bulk': how many values and letters a reading holds, each counted each time it is reached (what is shared counts as often as it is met; a slice's spare places count too). A statement '..UptoSaid' is the law's where the arguments, and the package variables that the reading takes, are together of bulk at most 1048576: NARROWER than '..Said'. Prove '..Said' where nothing that the law and all that it calls make is longer than what came in: it says more and counts as full. Else prove '..UptoSaid'. A law counts once. -/
mutual
def uptoBulk {H : Type} : DataW H → Nat
  | .lit (.string bytes) => bytes.length + 1
  | .lit _ => 1
  | .nil => 1
  | .ptr d => uptoBulk d + 1
  | .slice elems spare => uptoBulkAll elems + uptoBulkAll spare + 1
  | .agg parts => uptoBulkAll parts + 1
  | .iface _ d => uptoBulk d + 1
  | .map entries => uptoBulkEntries entries + 1
  | .held _ => 1
def uptoBulkAll {H : Type} : List (DataW H) → Nat
  | [] => 0
  | d :: r => uptoBulk d + uptoBulkAll r
def uptoBulkEntries {H : Type} : List (Lit × DataW H) → Nat
  | [] => 0
  | x :: r => uptoBulkEntry x + uptoBulkEntries r
def uptoBulkEntry {H : Type} : Lit × DataW H → Nat
  | (.string bytes, d) => bytes.length + uptoBulk d + 1
  | (_, d) => uptoBulk d + 1
 end
def uptoSmall : (H : Type) → List (DataW H) → Bool := fun _ ds => decide (uptoBulkAll ds ≤ 1048576)
def OpenSpec.upto (s : _root_.Go.ChangeSpec) : _root_.Go.OpenSpec := { _root_.Go.OpenSpec.ofChange s with cond := some uptoSmall }

/-- 'porpoiselaw17.DepBounds', WHERE WHAT IT READS IS OF BULK AT MOST 1048576: true; the input reads as it did. -/
def depBoundsUptoRow : OpenClaim := { program := "ytcnkhjgpjchkeaa", sum := "75edbc4aff2e0b0b00a8a0af893181e128fbba93bfefc05c756b1d9188a23835", func := "porpoise/porpoiselaw17.DepBounds", spec := "depBounds", plainKeys := false, apart := false, narrowed := true }
def DepBoundsUptoSaid : Prop := depBoundsUptoRow.holds Try.pinned (OpenSpec.upto depBoundsSpec)

/-- 'porpoiselaw17.DepProbe', WHERE WHAT IT READS IS OF BULK AT MOST 1048576: true; the input reads as it did. -/
def depProbeUptoRow : OpenClaim := { program := "ytcnkhjgpjchkeaa", sum := "75edbc4aff2e0b0b00a8a0af893181e128fbba93bfefc05c756b1d9188a23835", func := "porpoise/porpoiselaw17.DepProbe", spec := "depProbe", plainKeys := false, apart := false, narrowed := true }
def DepProbeUptoSaid : Prop := depProbeUptoRow.holds Try.pinned (OpenSpec.upto depProbeSpec)

/-- 'porpoiselaw17.DepNobody', WHERE WHAT IT READS IS OF BULK AT MOST 1048576: true; the input reads as it did. -/
def depNobodyUptoRow : OpenClaim := { program := "ytcnkhjgpjchkeaa", sum := "75edbc4aff2e0b0b00a8a0af893181e128fbba93bfefc05c756b1d9188a23835", func := "porpoise/porpoiselaw17.DepNobody", spec := "depNobody", plainKeys := false, apart := false, narrowed := true }
def DepNobodyUptoSaid : Prop := depNobodyUptoRow.holds Try.pinned (OpenSpec.upto depNobodySpec)

end Rows
end Go.Proofs.Ytcnkhjgpjchkeaa
