/- The walk of MergeSame, and what comes in. -/
import Derived.Test.YtfcemlcocdhmfaaLMS2
import Derived.Test.YtfcemlcocdhmfaaFR
import Derived.Test.YtfcemlcocdhmfaaO
