/- The walk and what comes in, together. -/
import Derived.Test.YtilcgpaefkapaaaAK
import Derived.Test.YtilcgpaefkapaaaFB
namespace Go.Proofs.Ytilcgpaefkapaaa
end Go.Proofs.Ytilcgpaefkapaaa
