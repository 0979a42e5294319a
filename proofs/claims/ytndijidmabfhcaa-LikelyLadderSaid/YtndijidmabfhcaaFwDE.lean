/- The document's image is the program's own. -/
import Derived.Test.YtndijidmabfhcaaFwDD
namespace Go.Proofs.Ytndijidmabfhcaa.Fw
open Go Go.RowKit
set_option maxRecDepth 2000000
set_option maxHeartbeats 4000000
theorem run14 : Runs Try.prog T 144 (Try.f14.body.getD .skip) Try.f14.results.toList [] (imageD aliasesL likelyL rulesL membersL 40 5) := by
  refine ⟨Nat.le_of_ble_eq_true rfl, ?_⟩
  conv => whnf
  exact ⟨rfl, rfl⟩
theorem call14 : CallsTo Try.prog 14 [] (imageD aliasesL likelyL rulesL membersL 40 5) := calls Try.func14 rfl (by decide) run14

end Go.Proofs.Ytndijidmabfhcaa.Fw
