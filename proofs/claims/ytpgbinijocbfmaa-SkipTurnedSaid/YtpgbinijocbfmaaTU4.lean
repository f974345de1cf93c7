/- The walk of SkipTurned, and what comes in. -/
import Derived.Test.YtpgbinijocbfmaaTU2
import Derived.Test.YtpgbinijocbfmaaO
