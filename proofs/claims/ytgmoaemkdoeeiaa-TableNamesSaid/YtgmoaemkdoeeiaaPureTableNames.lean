/- The law TableNames over numbers: the errors have their numbers; no condition. -/
import Derived.Test.YtgmoaemkdoeeiaaPTableNamesx1
namespace Go.Proofs.Ytgmoaemkdoeeiaa.Pure
open Go.RowKit Go.Proofs.Ytgmoaemkdoeeiaa.PTableNames

theorem TableNames : culletlaw05_TableNames.Pure := by
  rfl

end Go.Proofs.Ytgmoaemkdoeeiaa.Pure
