/- What is to be shown of functions of the program: all parts. -/
import Derived.Test.YthcaodlfnlhfbaaP1
import Derived.Test.YthcaodlfnlhfbaaP2
