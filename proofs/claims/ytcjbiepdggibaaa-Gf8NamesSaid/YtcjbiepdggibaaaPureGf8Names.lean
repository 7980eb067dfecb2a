/- The law Gf8Names over numbers: the modulus and the errors have their numbers; no condition. -/
import Derived.Test.YtcjbiepdggibaaaPGf8Namesx1
import Derived.Test.YtcjbiepdggibaaaGf
import Derived.Test.YtcjbiepdggibaaaBt
namespace Go.Proofs.Ytcjbiepdggibaaa.Pure
open Go.RowKit Go.Proofs.Ytcjbiepdggibaaa.PGf8Names Go.Proofs.YtcjbiepdggibaaaW.PrintWords Go.Proofs.YtcjbiepdggibaaaW.PrintLast

theorem Gf8Names : culletlaw02_Gf8Names.Pure := by
  rfl

end Go.Proofs.Ytcjbiepdggibaaa.Pure
