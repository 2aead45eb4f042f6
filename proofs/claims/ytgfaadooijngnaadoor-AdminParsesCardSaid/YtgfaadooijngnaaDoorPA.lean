/- What is to be shown of functions of the program: all parts. -/
import Derived.Test.YtgfaadooijngnaaDoorP1
