/- The run of the law on abstract values, in pieces. -/
import Derived.Test.YticjebnbcnphkaaGreatDoorZKTR0

namespace Go.Ai.TR
noncomputable section
theorem k7 : W x7 [x0,x1,x4,x5,x6] = true := by decide +kernel
theorem k18 : W x18 [] = true := by decide +kernel
theorem k35 : W x35 [] = true := by decide +kernel
theorem k66 : W x66 [x62,x63,x64,x65] = true := by decide +kernel
theorem k68 : W x68 [x56,x61,x66,x67] = true := by decide +kernel
theorem k70 : W x70 [x69] = true := by decide +kernel
theorem k72 : W x72 [x71] = true := by decide +kernel
theorem k82 : W x82 [] = true := by decide +kernel
theorem k85 : W x85 [] = true := by decide +kernel
theorem k102 : W x102 [] = true := by decide +kernel
end
end Go.Ai.TR
