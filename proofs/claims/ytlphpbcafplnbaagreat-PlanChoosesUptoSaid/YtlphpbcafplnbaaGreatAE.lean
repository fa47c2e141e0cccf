/- Contracts of functions of the seat, proved in a logic on data over the model (part AE). -/
import Derived.Test.YtlphpbcafplnbaaGreatAD

