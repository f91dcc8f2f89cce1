/- The reference's Check of a label set. -/
import Derived.Test.YtoogadidbbpplaaGreatLabChk
namespace Go.Proofs.YtoogadidbbpplaaGreat
open Go Go.RowKit Go.Sort

end Go.Proofs.YtoogadidbbpplaaGreat
