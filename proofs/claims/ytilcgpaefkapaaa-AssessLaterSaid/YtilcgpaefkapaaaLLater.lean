/- The walk and what comes in, together. -/
import Derived.Test.YtilcgpaefkapaaaAF2
import Derived.Test.YtilcgpaefkapaaaFB
namespace Go.Proofs.Ytilcgpaefkapaaa
end Go.Proofs.Ytilcgpaefkapaaa
