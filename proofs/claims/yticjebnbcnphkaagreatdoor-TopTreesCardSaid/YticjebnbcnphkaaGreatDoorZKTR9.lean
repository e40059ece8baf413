/- The run of the law on abstract values, in pieces. -/
import Derived.Test.YticjebnbcnphkaaGreatDoorZKTR0

namespace Go.Ai.TR
noncomputable section
theorem k1 : W x1 [] = true := by decide +kernel
theorem k16 : W x16 [] = true := by decide +kernel
theorem k23 : W x23 [] = true := by decide +kernel
theorem k40 : W x40 [x33,x38,x39] = true := by decide +kernel
theorem k43 : W x43 [x42] = true := by decide +kernel
theorem k44 : W x44 [x23,x24,x27,x28,x40,x43] = true := by decide +kernel
theorem k47 : W x47 [] = true := by decide +kernel
theorem k49 : W x49 [x48] = true := by decide +kernel
theorem k71 : W x71 [x70] = true := by decide +kernel
theorem k84 : W x84 [] = true := by decide +kernel
end
end Go.Ai.TR
