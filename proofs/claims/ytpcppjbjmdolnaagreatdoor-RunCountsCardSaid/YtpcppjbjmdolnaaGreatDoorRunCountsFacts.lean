/- The closed facts of the row of crosstreelaw12.RunCounts, one by one. -/
import Derived.Test.YtpcppjbjmdolnaaGreatDoorCards
import Derived.ProofKit
import Derived.OpenShut
import Derived.JoinedCond
set_option maxRecDepth 100000
namespace Go.Proofs.YtpcppjbjmdolnaaGreatDoor.runCounts
open Go Go.ChangeShapes Go.WideShapes Go.ChangeAt Go.RowKit
theorem and_t {a b : Bool} (h : a = true) (k : b = true) : (a && b) = true := by rw [h, k]; rfl
set_option maxHeartbeats 100000000 in
theorem closed : joinedFacts Tryz.pinned.checked.prog 10 Tryz.f10 (OpenSpec.ofChange Rows.runCountsSpec).bare Rows.runCountsRow = true := by
  unfold joinedFacts
  repeat' with_reducible apply and_t
  all_goals as_aux_lemma => kernel_rfl
end Go.Proofs.YtpcppjbjmdolnaaGreatDoor.runCounts
