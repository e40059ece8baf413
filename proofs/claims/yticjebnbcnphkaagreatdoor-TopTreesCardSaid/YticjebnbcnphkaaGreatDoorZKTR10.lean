/- The run of the law on abstract values, in pieces. -/
import Derived.Test.YticjebnbcnphkaaGreatDoorZKTR0

namespace Go.Ai.TR
noncomputable section
theorem k11 : W x11 [x10] = true := by decide +kernel
theorem k19 : W x19 [x14,x15,x16,x17,x18] = true := by decide +kernel
theorem k25 : W x25 [] = true := by decide +kernel
theorem k27 : W x27 [x26] = true := by decide +kernel
theorem k34 : W x34 [] = true := by decide +kernel
theorem k46 : W x46 [] = true := by decide +kernel
theorem k59 : W x59 [] = true := by decide +kernel
theorem k80 : W x80 [x79] = true := by decide +kernel
theorem k81 : W x81 [x80] = true := by decide +kernel
theorem k95 : W x95 [] = true := by decide +kernel
end
end Go.Ai.TR
