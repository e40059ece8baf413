/- The run of the law on abstract values, in pieces. -/
import Derived.Test.YticjebnbcnphkaaGreatDoorZKTR0

namespace Go.Ai.TR
noncomputable section
theorem k3 : W x3 [x2] = true := by decide +kernel
theorem k14 : W x14 [] = true := by decide +kernel
theorem k24 : W x24 [] = true := by decide +kernel
theorem k33 : W x33 [x29,x30,x31,x32] = true := by decide +kernel
theorem k39 : W x39 [] = true := by decide +kernel
theorem k62 : W x62 [] = true := by decide +kernel
theorem k79 : W x79 [] = true := by decide +kernel
theorem k91 : W x91 [] = true := by decide +kernel
theorem k97 : W x97 [] = true := by decide +kernel
theorem k103 : W x103 [x99,x100,x101,x102] = true := by decide +kernel
end
end Go.Ai.TR
