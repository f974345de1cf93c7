/- The walk and what comes in, together. -/
import Derived.Test.YtilcgpaefkapaaaAS
import Derived.Test.YtilcgpaefkapaaaFB
namespace Go.Proofs.Ytilcgpaefkapaaa
end Go.Proofs.Ytilcgpaefkapaaa
