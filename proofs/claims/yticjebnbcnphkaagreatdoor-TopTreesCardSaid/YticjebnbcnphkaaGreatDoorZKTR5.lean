/- The run of the law on abstract values, in pieces. -/
import Derived.Test.YticjebnbcnphkaaGreatDoorZKTR0

namespace Go.Ai.TR
noncomputable section
theorem k6 : W x6 [] = true := by decide +kernel
theorem k9 : W x9 [] = true := by decide +kernel
theorem k28 : W x28 [] = true := by decide +kernel
theorem k30 : W x30 [] = true := by decide +kernel
theorem k38 : W x38 [x34,x35,x36,x37] = true := by decide +kernel
theorem k41 : W x41 [] = true := by decide +kernel
theorem k69 : W x69 [] = true := by decide +kernel
theorem k83 : W x83 [] = true := by decide +kernel
theorem k89 : W x89 [] = true := by decide +kernel
theorem k108 : W x108 [x107] = true := by decide +kernel
end
end Go.Ai.TR
