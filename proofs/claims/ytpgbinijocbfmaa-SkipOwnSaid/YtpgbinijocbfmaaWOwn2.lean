/- The walk of SkipOwn, and the reach. -/
import Derived.Test.YtpgbinijocbfmaaWOwn
import Derived.Test.YtpgbinijocbfmaaP15
