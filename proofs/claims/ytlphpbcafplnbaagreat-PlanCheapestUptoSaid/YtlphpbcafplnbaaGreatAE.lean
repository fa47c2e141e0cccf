/- (facts: AD) -/
import Derived.Test.YtlphpbcafplnbaaGreatAD

