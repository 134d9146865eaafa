/-
  No cell of these rows narrows 'for every input' (looked for: loops, veiled, ifaces, maps, wideKeys, modest, calm, conditions, laid).
  DERIVED. THE GIVEN ROWS OF THIS SEAT. 12 by the template 'for every input the law returns true; each argument reads behind the call as it read before'; 0 by the template 'total and deterministic' (their statements: YtibnhfnidgfenaaTotals.lean).
  GIVEN WITH THE SEED: the statements are not yours to turn. If you find one false, say at which input.
  Laid BY PROGRAM, IN A SANDBOX (cutbox-rows.mjs): the forced cells as the released guide's own fill.sh prints them over the translation af74cff53f7dde9f… (all of the seat's roots in one cut). By AI agents, Wed Nov 11 2026. No macro, syntax, notation, axiom, sorry.
-/
import Derived.Test.YtibnhfnidgfenaaChecked
import GoSem.Claim
import GoSem.ClaimJoined
import GoSem.ClaimMapViews
import Derived.JoinedTies
import Derived.KernelRfl
namespace Go.Proofs.Ytibnhfnidgfenaa
/- THE CELL 'sum', in the pinned program and in every row, IS THE sha256 OF THE DUMP (.gsa) THAT YtibnhfnidgfenaaProg.lean LOADS. Nothing in Lean hashes anything: it is a label: what it is worth is what the hold of that sum in a sandbox is worth. -/
noncomputable def Try.pinned : Pinned := { name := "ytibnhfnidgfenaa", sum := "af74cff53f7dde9fc4de43e3d3b94270401216d6b86bf2fc1d27480567c7a5bf", checked := Try.checked }
namespace Rows
def none {H : Type} : Left H := { results := [], args := [] }

/-- 'porpoiselaw03.WheelCancels': WHATEVER THE INPUT: true; the input reads as it did. -/
def wheelCancelsSpec : ChangeSpec := { name := "wheelCancels", fn := fun _ => fun
  | [d1, d2, d3] => { results := [.lit (.bool true)], args := [d1, d2, d3] }
  | _ => none }
def wheelCancelsRow : OpenClaim := { program := "ytibnhfnidgfenaa", sum := "af74cff53f7dde9fc4de43e3d3b94270401216d6b86bf2fc1d27480567c7a5bf", func := "porpoise/porpoiselaw03.WheelCancels", spec := "wheelCancels", unfollowed := true, recurses := true, plainKeys := false, apart := false }
def WheelCancelsSaid : Prop := wheelCancelsRow.holds Try.pinned (OpenSpec.ofChange wheelCancelsSpec)

/-- ITS FALSE NEIGHBOUR: 'it returns false'. Refute it at one input. -/
def wheelCancelsWrong : ChangeSpec := { name := "wheelCancels", fn := fun _ => fun
  | [d1, d2, d3] => { results := [.lit (.bool false)], args := [d1, d2, d3] }
  | _ => none }
def WheelCancelsWrongFalsely : Prop := wheelCancelsRow.holds Try.pinned (OpenSpec.ofChange wheelCancelsWrong)

/-- 'porpoiselaw03.WheelFires': WHATEVER THE INPUT: true; the input reads as it did. -/
def wheelFiresSpec : ChangeSpec := { name := "wheelFires", fn := fun _ => fun
  | [d1, d2, d3] => { results := [.lit (.bool true)], args := [d1, d2, d3] }
  | _ => none }
def wheelFiresRow : OpenClaim := { program := "ytibnhfnidgfenaa", sum := "af74cff53f7dde9fc4de43e3d3b94270401216d6b86bf2fc1d27480567c7a5bf", func := "porpoise/porpoiselaw03.WheelFires", spec := "wheelFires", unfollowed := true, recurses := true, plainKeys := false, apart := false }
def WheelFiresSaid : Prop := wheelFiresRow.holds Try.pinned (OpenSpec.ofChange wheelFiresSpec)

/-- ITS FALSE NEIGHBOUR: 'it returns false'. Refute it at one input. -/
def wheelFiresWrong : ChangeSpec := { name := "wheelFires", fn := fun _ => fun
  | [d1, d2, d3] => { results := [.lit (.bool false)], args := [d1, d2, d3] }
  | _ => none }
def WheelFiresWrongFalsely : Prop := wheelFiresRow.holds Try.pinned (OpenSpec.ofChange wheelFiresWrong)

/-- 'porpoiselaw03.WheelParts': WHATEVER THE INPUT: true; the input reads as it did. -/
def wheelPartsSpec : ChangeSpec := { name := "wheelParts", fn := fun _ => fun
  | [d1, d2, d3] => { results := [.lit (.bool true)], args := [d1, d2, d3] }
  | _ => none }
def wheelPartsRow : OpenClaim := { program := "ytibnhfnidgfenaa", sum := "af74cff53f7dde9fc4de43e3d3b94270401216d6b86bf2fc1d27480567c7a5bf", func := "porpoise/porpoiselaw03.WheelParts", spec := "wheelParts", unfollowed := true, recurses := true, plainKeys := false, apart := false }
def WheelPartsSaid : Prop := wheelPartsRow.holds Try.pinned (OpenSpec.ofChange wheelPartsSpec)

/-- ITS FALSE NEIGHBOUR: 'it returns false'. Refute it at one input. -/
def wheelPartsWrong : ChangeSpec := { name := "wheelParts", fn := fun _ => fun
  | [d1, d2, d3] => { results := [.lit (.bool false)], args := [d1, d2, d3] }
  | _ => none }
def WheelPartsWrongFalsely : Prop := wheelPartsRow.holds Try.pinned (OpenSpec.ofChange wheelPartsWrong)

/-- 'porpoiselaw03.WheelTime': WHATEVER THE INPUT: true; the input reads as it did. -/
def wheelTimeSpec : ChangeSpec := { name := "wheelTime", fn := fun _ => fun
  | [d1, d2] => { results := [.lit (.bool true)], args := [d1, d2] }
  | _ => none }
def wheelTimeRow : OpenClaim := { program := "ytibnhfnidgfenaa", sum := "af74cff53f7dde9fc4de43e3d3b94270401216d6b86bf2fc1d27480567c7a5bf", func := "porpoise/porpoiselaw03.WheelTime", spec := "wheelTime", unfollowed := true, recurses := true, plainKeys := false, apart := false }
def WheelTimeSaid : Prop := wheelTimeRow.holds Try.pinned (OpenSpec.ofChange wheelTimeSpec)

/-- ITS FALSE NEIGHBOUR: 'it returns false'. Refute it at one input. -/
def wheelTimeWrong : ChangeSpec := { name := "wheelTime", fn := fun _ => fun
  | [d1, d2] => { results := [.lit (.bool false)], args := [d1, d2] }
  | _ => none }
def WheelTimeWrongFalsely : Prop := wheelTimeRow.holds Try.pinned (OpenSpec.ofChange wheelTimeWrong)

/-- 'porpoiselaw03.WheelPlays': WHATEVER THE INPUT: true; the input reads as it did. -/
def wheelPlaysSpec : ChangeSpec := { name := "wheelPlays", fn := fun _ => fun
  | [d1, d2, d3] => { results := [.lit (.bool true)], args := [d1, d2, d3] }
  | _ => none }
def wheelPlaysRow : OpenClaim := { program := "ytibnhfnidgfenaa", sum := "af74cff53f7dde9fc4de43e3d3b94270401216d6b86bf2fc1d27480567c7a5bf", func := "porpoise/porpoiselaw03.WheelPlays", spec := "wheelPlays", unfollowed := true, recurses := true, plainKeys := false, apart := false }
def WheelPlaysSaid : Prop := wheelPlaysRow.holds Try.pinned (OpenSpec.ofChange wheelPlaysSpec)

/-- ITS FALSE NEIGHBOUR: 'it returns false'. Refute it at one input. -/
def wheelPlaysWrong : ChangeSpec := { name := "wheelPlays", fn := fun _ => fun
  | [d1, d2, d3] => { results := [.lit (.bool false)], args := [d1, d2, d3] }
  | _ => none }
def WheelPlaysWrongFalsely : Prop := wheelPlaysRow.holds Try.pinned (OpenSpec.ofChange wheelPlaysWrong)

/-- 'porpoiselaw03.WheelNobody': WHATEVER THE INPUT: true; the input reads as it did. -/
def wheelNobodySpec : ChangeSpec := { name := "wheelNobody", fn := fun _ => fun
  | [d1, d2, d3] => { results := [.lit (.bool true)], args := [d1, d2, d3] }
  | _ => none }
def wheelNobodyRow : OpenClaim := { program := "ytibnhfnidgfenaa", sum := "af74cff53f7dde9fc4de43e3d3b94270401216d6b86bf2fc1d27480567c7a5bf", func := "porpoise/porpoiselaw03.WheelNobody", spec := "wheelNobody", unfollowed := true, recurses := true, plainKeys := false, apart := false }
def WheelNobodySaid : Prop := wheelNobodyRow.holds Try.pinned (OpenSpec.ofChange wheelNobodySpec)

/-- ITS FALSE NEIGHBOUR: 'it returns false'. Refute it at one input. -/
def wheelNobodyWrong : ChangeSpec := { name := "wheelNobody", fn := fun _ => fun
  | [d1, d2, d3] => { results := [.lit (.bool false)], args := [d1, d2, d3] }
  | _ => none }
def WheelNobodyWrongFalsely : Prop := wheelNobodyRow.holds Try.pinned (OpenSpec.ofChange wheelNobodyWrong)

/-- 'porpoiselaw18.TimersPlays': WHATEVER THE INPUT: true; the input reads as it did. -/
def timersPlaysSpec : ChangeSpec := { name := "timersPlays", fn := fun _ => fun
  | [d] => { results := [.lit (.bool true)], args := [d] }
  | _ => none }
def timersPlaysRow : OpenClaim := { program := "ytibnhfnidgfenaa", sum := "af74cff53f7dde9fc4de43e3d3b94270401216d6b86bf2fc1d27480567c7a5bf", func := "porpoise/porpoiselaw18.TimersPlays", spec := "timersPlays", unfollowed := true, recurses := true, plainKeys := false, apart := false }
def TimersPlaysSaid : Prop := timersPlaysRow.holds Try.pinned (OpenSpec.ofChange timersPlaysSpec)

/-- ITS FALSE NEIGHBOUR: 'it returns false'. Refute it at one input. -/
def timersPlaysWrong : ChangeSpec := { name := "timersPlays", fn := fun _ => fun
  | [d] => { results := [.lit (.bool false)], args := [d] }
  | _ => none }
def TimersPlaysWrongFalsely : Prop := timersPlaysRow.holds Try.pinned (OpenSpec.ofChange timersPlaysWrong)

/-- 'porpoiselaw18.TimersGoal': WHATEVER THE INPUT: true; the input reads as it did. -/
def timersGoalSpec : ChangeSpec := { name := "timersGoal", fn := fun _ => fun
  | [d1, d2] => { results := [.lit (.bool true)], args := [d1, d2] }
  | _ => none }
def timersGoalRow : OpenClaim := { program := "ytibnhfnidgfenaa", sum := "af74cff53f7dde9fc4de43e3d3b94270401216d6b86bf2fc1d27480567c7a5bf", func := "porpoise/porpoiselaw18.TimersGoal", spec := "timersGoal", unfollowed := true, recurses := true, plainKeys := false, apart := false }
def TimersGoalSaid : Prop := timersGoalRow.holds Try.pinned (OpenSpec.ofChange timersGoalSpec)

/-- ITS FALSE NEIGHBOUR: 'it returns false'. Refute it at one input. -/
def timersGoalWrong : ChangeSpec := { name := "timersGoal", fn := fun _ => fun
  | [d1, d2] => { results := [.lit (.bool false)], args := [d1, d2] }
  | _ => none }
def TimersGoalWrongFalsely : Prop := timersGoalRow.holds Try.pinned (OpenSpec.ofChange timersGoalWrong)

/-- 'porpoiselaw18.TimersAnew': WHATEVER THE INPUT: true; the input reads as it did. -/
def timersAnewSpec : ChangeSpec := { name := "timersAnew", fn := fun _ => fun
  | [d1, d2, d3] => { results := [.lit (.bool true)], args := [d1, d2, d3] }
  | _ => none }
def timersAnewRow : OpenClaim := { program := "ytibnhfnidgfenaa", sum := "af74cff53f7dde9fc4de43e3d3b94270401216d6b86bf2fc1d27480567c7a5bf", func := "porpoise/porpoiselaw18.TimersAnew", spec := "timersAnew", unfollowed := true, recurses := true, plainKeys := false, apart := false }
def TimersAnewSaid : Prop := timersAnewRow.holds Try.pinned (OpenSpec.ofChange timersAnewSpec)

/-- ITS FALSE NEIGHBOUR: 'it returns false'. Refute it at one input. -/
def timersAnewWrong : ChangeSpec := { name := "timersAnew", fn := fun _ => fun
  | [d1, d2, d3] => { results := [.lit (.bool false)], args := [d1, d2, d3] }
  | _ => none }
def TimersAnewWrongFalsely : Prop := timersAnewRow.holds Try.pinned (OpenSpec.ofChange timersAnewWrong)

/-- 'porpoiselaw18.TimersParts': WHATEVER THE INPUT: true; the input reads as it did. -/
def timersPartsSpec : ChangeSpec := { name := "timersParts", fn := fun _ => fun
  | [d1, d2, d3] => { results := [.lit (.bool true)], args := [d1, d2, d3] }
  | _ => none }
def timersPartsRow : OpenClaim := { program := "ytibnhfnidgfenaa", sum := "af74cff53f7dde9fc4de43e3d3b94270401216d6b86bf2fc1d27480567c7a5bf", func := "porpoise/porpoiselaw18.TimersParts", spec := "timersParts", unfollowed := true, recurses := true, plainKeys := false, apart := false }
def TimersPartsSaid : Prop := timersPartsRow.holds Try.pinned (OpenSpec.ofChange timersPartsSpec)

/-- ITS FALSE NEIGHBOUR: 'it returns false'. Refute it at one input. -/
def timersPartsWrong : ChangeSpec := { name := "timersParts", fn := fun _ => fun
  | [d1, d2, d3] => { results := [.lit (.bool false)], args := [d1, d2, d3] }
  | _ => none }
def TimersPartsWrongFalsely : Prop := timersPartsRow.holds Try.pinned (OpenSpec.ofChange timersPartsWrong)

/-- 'porpoiselaw18.TimersStops': WHATEVER THE INPUT: true; the input reads as it did. -/
def timersStopsSpec : ChangeSpec := { name := "timersStops", fn := fun _ => fun
  | [d1, d2] => { results := [.lit (.bool true)], args := [d1, d2] }
  | _ => none }
def timersStopsRow : OpenClaim := { program := "ytibnhfnidgfenaa", sum := "af74cff53f7dde9fc4de43e3d3b94270401216d6b86bf2fc1d27480567c7a5bf", func := "porpoise/porpoiselaw18.TimersStops", spec := "timersStops", unfollowed := true, recurses := true, plainKeys := false, apart := false }
def TimersStopsSaid : Prop := timersStopsRow.holds Try.pinned (OpenSpec.ofChange timersStopsSpec)

/-- ITS FALSE NEIGHBOUR: 'it returns false'. Refute it at one input. -/
def timersStopsWrong : ChangeSpec := { name := "timersStops", fn := fun _ => fun
  | [d1, d2] => { results := [.lit (.bool false)], args := [d1, d2] }
  | _ => none }
def TimersStopsWrongFalsely : Prop := timersStopsRow.holds Try.pinned (OpenSpec.ofChange timersStopsWrong)

/-- 'porpoiselaw18.TimersNobody': WHATEVER THE INPUT: true; the input reads as it did. -/
def timersNobodySpec : ChangeSpec := { name := "timersNobody", fn := fun _ => fun
  | [d1, d2] => { results := [.lit (.bool true)], args := [d1, d2] }
  | _ => none }
def timersNobodyRow : OpenClaim := { program := "ytibnhfnidgfenaa", sum := "af74cff53f7dde9fc4de43e3d3b94270401216d6b86bf2fc1d27480567c7a5bf", func := "porpoise/porpoiselaw18.TimersNobody", spec := "timersNobody", unfollowed := true, recurses := true, plainKeys := false, apart := false }
def TimersNobodySaid : Prop := timersNobodyRow.holds Try.pinned (OpenSpec.ofChange timersNobodySpec)

/-- ITS FALSE NEIGHBOUR: 'it returns false'. Refute it at one input. -/
def timersNobodyWrong : ChangeSpec := { name := "timersNobody", fn := fun _ => fun
  | [d1, d2] => { results := [.lit (.bool false)], args := [d1, d2] }
  | _ => none }
def TimersNobodyWrongFalsely : Prop := timersNobodyRow.holds Try.pinned (OpenSpec.ofChange timersNobodyWrong)

/- THE SECOND FORM. 'bulk': how many values and letters a reading holds, each counted each time it is reached (what is shared counts as often as it is met; a slice's spare places count too). A statement '..UptoSaid' is the law's where the arguments, and the package variables that the reading takes, are together of bulk at most 1048576: NARROWER than '..Said'. Prove '..Said' where nothing that the law and all that it calls make is longer than what came in: it says more and counts as full. Else prove '..UptoSaid'. A law counts once. -/
mutual
def uptoBulk {H : Type} : DataW H → Nat
  | .lit (.string bytes) => bytes.length + 1
  | .lit _ => 1
  | .nil => 1
  | .ptr d => uptoBulk d + 1
  | .slice elems spare => uptoBulkAll elems + uptoBulkAll spare + 1
  | .agg parts => uptoBulkAll parts + 1
  | .iface _ d => uptoBulk d + 1
  | .map entries => uptoBulkEntries entries + 1
  | .held _ => 1
def uptoBulkAll {H : Type} : List (DataW H) → Nat
  | [] => 0
  | d :: r => uptoBulk d + uptoBulkAll r
def uptoBulkEntries {H : Type} : List (Lit × DataW H) → Nat
  | [] => 0
  | x :: r => uptoBulkEntry x + uptoBulkEntries r
def uptoBulkEntry {H : Type} : Lit × DataW H → Nat
  | (.string bytes, d) => bytes.length + uptoBulk d + 1
  | (_, d) => uptoBulk d + 1
 end
def uptoSmall : (H : Type) → List (DataW H) → Bool := fun _ ds => decide (uptoBulkAll ds ≤ 1048576)
def OpenSpec.upto (s : _root_.Go.ChangeSpec) : _root_.Go.OpenSpec := { _root_.Go.OpenSpec.ofChange s with cond := some uptoSmall }

/-- 'porpoiselaw03.WheelCancels', WHERE WHAT IT READS IS OF BULK AT MOST 1048576: true; the input reads as it did. -/
def wheelCancelsUptoRow : OpenClaim := { program := "ytibnhfnidgfenaa", sum := "af74cff53f7dde9fc4de43e3d3b94270401216d6b86bf2fc1d27480567c7a5bf", func := "porpoise/porpoiselaw03.WheelCancels", spec := "wheelCancels", unfollowed := true, recurses := true, plainKeys := false, apart := false, narrowed := true }
def WheelCancelsUptoSaid : Prop := wheelCancelsUptoRow.holds Try.pinned (OpenSpec.upto wheelCancelsSpec)

/-- 'porpoiselaw03.WheelFires', WHERE WHAT IT READS IS OF BULK AT MOST 1048576: true; the input reads as it did. -/
def wheelFiresUptoRow : OpenClaim := { program := "ytibnhfnidgfenaa", sum := "af74cff53f7dde9fc4de43e3d3b94270401216d6b86bf2fc1d27480567c7a5bf", func := "porpoise/porpoiselaw03.WheelFires", spec := "wheelFires", unfollowed := true, recurses := true, plainKeys := false, apart := false, narrowed := true }
def WheelFiresUptoSaid : Prop := wheelFiresUptoRow.holds Try.pinned (OpenSpec.upto wheelFiresSpec)

/-- 'porpoiselaw03.WheelParts', WHERE WHAT IT READS IS OF BULK AT MOST 1048576: true; the input reads as it did. -/
def wheelPartsUptoRow : OpenClaim := { program := "ytibnhfnidgfenaa", sum := "af74cff53f7dde9fc4de43e3d3b94270401216d6b86bf2fc1d27480567c7a5bf", func := "porpoise/porpoiselaw03.WheelParts", spec := "wheelParts", unfollowed := true, recurses := true, plainKeys := false, apart := false, narrowed := true }
def WheelPartsUptoSaid : Prop := wheelPartsUptoRow.holds Try.pinned (OpenSpec.upto wheelPartsSpec)

/-- 'porpoiselaw03.WheelTime', WHERE WHAT IT READS IS OF BULK AT MOST 1048576: true; the input reads as it did. -/
def wheelTimeUptoRow : OpenClaim := { program := "ytibnhfnidgfenaa", sum := "af74cff53f7dde9fc4de43e3d3b94270401216d6b86bf2fc1d27480567c7a5bf", func := "porpoise/porpoiselaw03.WheelTime", spec := "wheelTime", unfollowed := true, recurses := true, plainKeys := false, apart := false, narrowed := true }
def WheelTimeUptoSaid : Prop := wheelTimeUptoRow.holds Try.pinned (OpenSpec.upto wheelTimeSpec)

/-- 'porpoiselaw03.WheelPlays', WHERE WHAT IT READS IS OF BULK AT MOST 1048576: true; the input reads as it did. -/
def wheelPlaysUptoRow : OpenClaim := { program := "ytibnhfnidgfenaa", sum := "af74cff53f7dde9fc4de43e3d3b94270401216d6b86bf2fc1d27480567c7a5bf", func := "porpoise/porpoiselaw03.WheelPlays", spec := "wheelPlays", unfollowed := true, recurses := true, plainKeys := false, apart := false, narrowed := true }
def WheelPlaysUptoSaid : Prop := wheelPlaysUptoRow.holds Try.pinned (OpenSpec.upto wheelPlaysSpec)

/-- 'porpoiselaw03.WheelNobody', WHERE WHAT IT READS IS OF BULK AT MOST 1048576: true; the input reads as it did. -/
def wheelNobodyUptoRow : OpenClaim := { program := "ytibnhfnidgfenaa", sum := "af74cff53f7dde9fc4de43e3d3b94270401216d6b86bf2fc1d27480567c7a5bf", func := "porpoise/porpoiselaw03.WheelNobody", spec := "wheelNobody", unfollowed := true, recurses := true, plainKeys := false, apart := false, narrowed := true }
def WheelNobodyUptoSaid : Prop := wheelNobodyUptoRow.holds Try.pinned (OpenSpec.upto wheelNobodySpec)

/-- 'porpoiselaw18.TimersPlays', WHERE WHAT IT READS IS OF BULK AT MOST 1048576: true; the input reads as it did. -/
def timersPlaysUptoRow : OpenClaim := { program := "ytibnhfnidgfenaa", sum := "af74cff53f7dde9fc4de43e3d3b94270401216d6b86bf2fc1d27480567c7a5bf", func := "porpoise/porpoiselaw18.TimersPlays", spec := "timersPlays", unfollowed := true, recurses := true, plainKeys := false, apart := false, narrowed := true }
def TimersPlaysUptoSaid : Prop := timersPlaysUptoRow.holds Try.pinned (OpenSpec.upto timersPlaysSpec)

/-- 'porpoiselaw18.TimersGoal', WHERE WHAT IT READS IS OF BULK AT MOST 1048576: true; the input reads as it did. -/
def timersGoalUptoRow : OpenClaim := { program := "ytibnhfnidgfenaa", sum := "af74cff53f7dde9fc4de43e3d3b94270401216d6b86bf2fc1d27480567c7a5bf", func := "porpoise/porpoiselaw18.TimersGoal", spec := "timersGoal", unfollowed := true, recurses := true, plainKeys := false, apart := false, narrowed := true }
def TimersGoalUptoSaid : Prop := timersGoalUptoRow.holds Try.pinned (OpenSpec.upto timersGoalSpec)

/-- 'porpoiselaw18.TimersAnew', WHERE WHAT IT READS IS OF BULK AT MOST 1048576: true; the input reads as it did. -/
def timersAnewUptoRow : OpenClaim := { program := "ytibnhfnidgfenaa", sum := "af74cff53f7dde9fc4de43e3d3b94270401216d6b86bf2fc1d27480567c7a5bf", func := "porpoise/porpoiselaw18.TimersAnew", spec := "timersAnew", unfollowed := true, recurses := true, plainKeys := false, apart := false, narrowed := true }
def TimersAnewUptoSaid : Prop := timersAnewUptoRow.holds Try.pinned (OpenSpec.upto timersAnewSpec)

/-- 'porpoiselaw18.TimersParts', WHERE WHAT IT READS IS OF BULK AT MOST 1048576: true; the input reads as it did. -/
def timersPartsUptoRow : OpenClaim := { program := "ytibnhfnidgfenaa", sum := "af74cff53f7dde9fc4de43e3d3b94270401216d6b86bf2fc1d27480567c7a5bf", func := "porpoise/porpoiselaw18.TimersParts", spec := "timersParts", unfollowed := true, recurses := true, plainKeys := false, apart := false, narrowed := true }
def TimersPartsUptoSaid : Prop := timersPartsUptoRow.holds Try.pinned (OpenSpec.upto timersPartsSpec)

/-- 'porpoiselaw18.TimersStops', WHERE WHAT IT READS IS OF BULK AT MOST 1048576: true; the input reads as it did. -/
def timersStopsUptoRow : OpenClaim := { program := "ytibnhfnidgfenaa", sum := "af74cff53f7dde9fc4de43e3d3b94270401216d6b86bf2fc1d27480567c7a5bf", func := "porpoise/porpoiselaw18.TimersStops", spec := "timersStops", unfollowed := true, recurses := true, plainKeys := false, apart := false, narrowed := true }
def TimersStopsUptoSaid : Prop := timersStopsUptoRow.holds Try.pinned (OpenSpec.upto timersStopsSpec)

/-- 'porpoiselaw18.TimersNobody', WHERE WHAT IT READS IS OF BULK AT MOST 1048576: true; the input reads as it did. -/
def timersNobodyUptoRow : OpenClaim := { program := "ytibnhfnidgfenaa", sum := "af74cff53f7dde9fc4de43e3d3b94270401216d6b86bf2fc1d27480567c7a5bf", func := "porpoise/porpoiselaw18.TimersNobody", spec := "timersNobody", unfollowed := true, recurses := true, plainKeys := false, apart := false, narrowed := true }
def TimersNobodyUptoSaid : Prop := timersNobodyUptoRow.holds Try.pinned (OpenSpec.upto timersNobodySpec)

end Rows
end Go.Proofs.Ytibnhfnidgfenaa
