/- The law PlanesNames over numbers: the errors have their numbers; no condition. -/
import Derived.Test.YtadgjmlkpnifoaaPPlanesNamesx1
namespace Go.Proofs.Ytadgjmlkpnifoaa.Pure
open Go.RowKit Go.Proofs.Ytadgjmlkpnifoaa.PPlanesNames

theorem PlanesNames : culletlaw08_PlanesNames.Pure := by
  rfl

end Go.Proofs.Ytadgjmlkpnifoaa.Pure
