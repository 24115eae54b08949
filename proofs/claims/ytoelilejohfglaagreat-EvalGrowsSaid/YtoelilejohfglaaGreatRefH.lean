/- Layer 6 as the document has it: Runs. -/
import Derived.Test.YtoelilejohfglaaGreatBunB
