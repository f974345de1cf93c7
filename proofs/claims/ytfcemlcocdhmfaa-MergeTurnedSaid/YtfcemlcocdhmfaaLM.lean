/- The walks of MergeAll and MergeAt, and what comes in. -/
import Derived.Test.YtfcemlcocdhmfaaLMAll
import Derived.Test.YtfcemlcocdhmfaaFR
import Derived.Test.YtfcemlcocdhmfaaLMT
