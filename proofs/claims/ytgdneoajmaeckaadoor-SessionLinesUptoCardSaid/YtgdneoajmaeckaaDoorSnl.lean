/- SessionLines: the walk and the reading of its arguments, together. No condition. -/
import Derived.Test.YtgdneoajmaeckaaDoorSn
import Derived.Test.YtgdneoajmaeckaaDoorArg
namespace Go.Proofs.YtgdneoajmaeckaaDoor
end Go.Proofs.YtgdneoajmaeckaaDoor
