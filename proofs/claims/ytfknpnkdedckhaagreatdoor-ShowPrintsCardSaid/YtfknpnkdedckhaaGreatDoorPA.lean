/- What is to be shown of functions of the program: all parts. -/
import Derived.Test.YtfknpnkdedckhaaGreatDoorP1
import Derived.Test.YtfknpnkdedckhaaGreatDoorP2
import Derived.Test.YtfknpnkdedckhaaGreatDoorP3
import Derived.Test.YtfknpnkdedckhaaGreatDoorP4
