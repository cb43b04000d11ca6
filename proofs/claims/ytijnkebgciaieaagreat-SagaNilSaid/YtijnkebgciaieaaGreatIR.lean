/- The seat's functions in the engine's small language: in parts. -/
import Derived.Test.YtijnkebgciaieaaGreatIRa
import Derived.Test.YtijnkebgciaieaaGreatIRb
