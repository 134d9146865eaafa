/-
  BulkPlays, as a contract of its function.
-/
import Derived.Test.YthbhkmhmiplikaaBulkLaws4
import Derived.Test.YthbhkmhmiplikaaBulkLaws5
namespace Go.Proofs.Ythbhkmhmiplikaa
open Go.RowKit

theorem bulkPlays_spec {w : World} {v : Value} (c : CF) {ds : List (Int × Int)} (hd : Deeds w v ds) (x : Int) :
    Calls Try.prog 9 #[c.val, v, .int .i64 x] w fun e w' => e = .returned (.bool true) ∧ Fr [] w w' := by
  cases h : c.ok with
  | true => exact bulkPlays_some hd c x h
  | false => exact bulkPlays_none c x h
end Go.Proofs.Ythbhkmhmiplikaa
