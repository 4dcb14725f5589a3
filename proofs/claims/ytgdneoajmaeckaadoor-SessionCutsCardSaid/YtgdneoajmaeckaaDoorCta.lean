/- SessionCuts: the walk and the reading of its arguments, together. No condition. -/
import Derived.Test.YtgdneoajmaeckaaDoorCt
import Derived.Test.YtgdneoajmaeckaaDoorAi
namespace Go.Proofs.YtgdneoajmaeckaaDoor
open Go.RowKit
end Go.Proofs.YtgdneoajmaeckaaDoor
