/- The run of the law on abstract values, in pieces. -/
import Derived.Test.YticjebnbcnphkaaGreatDoorZKTR0

namespace Go.Ai.TR
noncomputable section
theorem k4 : W x4 [x3] = true := by decide +kernel
theorem k10 : W x10 [] = true := by decide +kernel
theorem k12 : W x12 [x11] = true := by decide +kernel
theorem k48 : W x48 [x47] = true := by decide +kernel
theorem k51 : W x51 [x50] = true := by decide +kernel
theorem k52 : W x52 [] = true := by decide +kernel
theorem k54 : W x54 [] = true := by decide +kernel
theorem k57 : W x57 [] = true := by decide +kernel
theorem k63 : W x63 [] = true := by decide +kernel
theorem k75 : W x75 [] = true := by decide +kernel
theorem k101 : W x101 [] = true := by decide +kernel
end
end Go.Ai.TR
