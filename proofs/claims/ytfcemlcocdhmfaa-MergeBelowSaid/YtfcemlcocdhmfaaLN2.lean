/- The walk of MergeBelow, and what comes in. -/
import Derived.Test.YtfcemlcocdhmfaaLMB
import Derived.Test.YtfcemlcocdhmfaaFR
import Derived.Test.YtfcemlcocdhmfaaO
