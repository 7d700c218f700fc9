/- The shelf again. -/
import Derived.Test.YtefcalkbfaefgaaGreatShelfK

