/- What is to be shown of functions of the program: all parts. -/
import Derived.Test.YthcaodlfnlhfbaaGreatDoorP1
import Derived.Test.YthcaodlfnlhfbaaGreatDoorP2
import Derived.Test.YthcaodlfnlhfbaaGreatDoorP3
