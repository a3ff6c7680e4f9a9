/-
  How a law of layer 11 is opened: an inode among the arguments. No condition.
-/
import Derived.Test.YteogkgjajhdhjaaDoorInE
import Derived.Test.YteogkgjajhdhjaaDoorLawOpen
import Derived.Test.YteogkgjajhdhjaaDoorOpen2
import Derived.Test.YteogkgjajhdhjaaDoorCards
import Derived.Test.YteogkgjajhdhjaaDoorTie
import Derived.LaidMore
import Derived.Lay
import Derived.SevenTiedAt
import Derived.Stop.Joined
namespace Go.Proofs.YteogkgjajhdhjaaDoor
open Go.ChangeShapes Go.WideShapes Go.ChangeAt Go.RowKit

end Go.Proofs.YteogkgjajhdhjaaDoor
