/- The run of the law on abstract values, in pieces. -/
import Derived.Test.YticjebnbcnphkaaGreatDoorZKTR0

namespace Go.Ai.TR
noncomputable section
theorem k2 : W x2 [] = true := by decide +kernel
theorem k15 : W x15 [] = true := by decide +kernel
theorem k17 : W x17 [] = true := by decide +kernel
theorem k32 : W x32 [] = true := by decide +kernel
theorem k55 : W x55 [] = true := by decide +kernel
theorem k86 : W x86 [] = true := by decide +kernel
theorem k98 : W x98 [x94,x95,x96,x97] = true := by decide +kernel
theorem k99 : W x99 [] = true := by decide +kernel
theorem k100 : W x100 [] = true := by decide +kernel
theorem k109 : W x109 [x108] = true := by decide +kernel
end
end Go.Ai.TR
