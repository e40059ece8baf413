/- The run of the law on abstract values, in pieces. -/
import Derived.Test.YticjebnbcnphkaaGreatDoorZKTR0

namespace Go.Ai.TR
noncomputable section
theorem k8 : W x8 [] = true := by decide +kernel
theorem k22 : W x22 [x8,x9,x12,x13,x19,x21] = true := by decide +kernel
theorem k42 : W x42 [x41] = true := by decide +kernel
theorem k53 : W x53 [] = true := by decide +kernel
theorem k67 : W x67 [] = true := by decide +kernel
theorem k73 : W x73 [x45,x46,x49,x51,x68,x72] = true := by decide +kernel
theorem k77 : W x77 [x76] = true := by decide +kernel
theorem k87 : W x87 [x83,x84,x85,x86] = true := by decide +kernel
theorem k94 : W x94 [] = true := by decide +kernel
theorem k96 : W x96 [] = true := by decide +kernel
end
end Go.Ai.TR
