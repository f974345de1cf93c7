/- The walks of the laws, and what comes in. -/
import Derived.Test.YtfcemlcocdhmfaaXM
import Derived.Test.YtfcemlcocdhmfaaLMK
import Derived.Test.YtfcemlcocdhmfaaFR
import Derived.Test.YtfcemlcocdhmfaaO
