/- The run of the law on abstract values, in pieces. -/
import Derived.Test.YticjebnbcnphkaaGreatDoorZKTR0

namespace Go.Ai.TR
noncomputable section
theorem k13 : W x13 [] = true := by decide +kernel
theorem k26 : W x26 [x25] = true := by decide +kernel
theorem k50 : W x50 [] = true := by decide +kernel
theorem k56 : W x56 [x52,x53,x54,x55] = true := by decide +kernel
theorem k64 : W x64 [] = true := by decide +kernel
theorem k74 : W x74 [] = true := by decide +kernel
theorem k76 : W x76 [] = true := by decide +kernel
theorem k78 : W x78 [x77] = true := by decide +kernel
theorem k90 : W x90 [] = true := by decide +kernel
theorem k105 : W x105 [x82,x87,x93,x98,x103,x104] = true := by decide +kernel
end
end Go.Ai.TR
