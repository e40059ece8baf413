/- The run of the law on abstract values, in pieces. -/
import Derived.Test.YticjebnbcnphkaaGreatDoorZKTR0

namespace Go.Ai.TR
noncomputable section
theorem k0 : W x0 [] = true := by decide +kernel
theorem k20 : W x20 [] = true := by decide +kernel
theorem k21 : W x21 [x20] = true := by decide +kernel
theorem k36 : W x36 [] = true := by decide +kernel
theorem k45 : W x45 [] = true := by decide +kernel
theorem k60 : W x60 [] = true := by decide +kernel
theorem k61 : W x61 [x57,x58,x59,x60] = true := by decide +kernel
theorem k65 : W x65 [] = true := by decide +kernel
theorem k92 : W x92 [] = true := by decide +kernel
theorem k110 : W x110 [x74,x75,x78,x81,x105,x109] = true := by decide +kernel
end
end Go.Ai.TR
