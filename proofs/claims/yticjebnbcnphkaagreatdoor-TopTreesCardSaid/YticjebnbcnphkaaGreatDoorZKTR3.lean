/- The run of the law on abstract values, in pieces. -/
import Derived.Test.YticjebnbcnphkaaGreatDoorZKTR0

namespace Go.Ai.TR
noncomputable section
theorem k5 : W x5 [] = true := by decide +kernel
theorem k29 : W x29 [] = true := by decide +kernel
theorem k31 : W x31 [] = true := by decide +kernel
theorem k37 : W x37 [] = true := by decide +kernel
theorem k58 : W x58 [] = true := by decide +kernel
theorem k88 : W x88 [] = true := by decide +kernel
theorem k93 : W x93 [x88,x89,x90,x91,x92] = true := by decide +kernel
theorem k104 : W x104 [] = true := by decide +kernel
theorem k106 : W x106 [] = true := by decide +kernel
theorem k107 : W x107 [x106] = true := by decide +kernel
end
end Go.Ai.TR
