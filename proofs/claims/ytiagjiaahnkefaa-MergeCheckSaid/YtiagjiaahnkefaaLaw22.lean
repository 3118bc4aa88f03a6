/- What the walks of chapter 22 lean on. -/
import Derived.Test.YtiagjiaahnkefaaFew
import Derived.Test.YtiagjiaahnkefaaAwk
