/- All conditions of this seat. Conditions: none. -/
import Derived.Test.YtnecdbclhdbaoaaG2
