/- The run of the law on abstract values, in pieces. -/
import Derived.Test.YticjebnbcnphkaaGreatDoorZKLV0

namespace Go.Ai
noncomputable section
theorem LVep298at5645k : run Go.Proofs.Tryz.prog (cfO [(43,p 5645,LVep43at5645)]) 100000 (.call 298 LVep298at5645.args (oraA (p 5645) LVep298at5645) (fun v A => oraE LVep298at5645 v A) (fun _ _ => false)) = true := by decide +kernel
theorem LVep183at4948k : run Go.Proofs.Tryz.prog (cfO [(298,p 5645,LVep298at5645)]) 100000 (.call 183 LVep183at4948.args (oraA (p 4948) LVep183at4948) (fun v A => oraE LVep183at4948 v A) (fun _ _ => false)) = true := by decide +kernel
theorem LVep37at4047k : run Go.Proofs.Tryz.prog (cfO [(183,p 4948,LVep183at4948)]) 100000 (.call 37 LVep37at4047.args (oraA (p 4047) LVep37at4047) (fun v A => oraE LVep37at4047 v A) (fun _ _ => false)) = true := by decide +kernel
theorem LVep14at2905k : run Go.Proofs.Tryz.prog (cfO [(37,p 4047,LVep37at4047)]) 100000 (.call 14 LVep14at2905.args (oraA (p 2905) LVep14at2905) (fun v A => oraE LVep14at2905 v A) (fun _ _ => false)) = true := by decide +kernel
theorem LVep20at7353k : run Go.Proofs.Tryz.prog (cfO []) 100000 (.call 20 LVep20at7353.args (oraA (p 7353) LVep20at7353) (fun v A => oraE LVep20at7353 v A) (fun _ _ => false)) = true := by decide +kernel
theorem LVep37at9031k : run Go.Proofs.Tryz.prog (cfO []) 100000 (.call 37 LVep37at9031.args (oraA (p 9031) LVep37at9031) (fun v A => oraE LVep37at9031 v A) (fun _ _ => false)) = true := by decide +kernel
theorem LVep14at8484k : run Go.Proofs.Tryz.prog (cfO [(37,p 9031,LVep37at9031)]) 100000 (.call 14 LVep14at8484.args (oraA (p 8484) LVep14at8484) (fun v A => oraE LVep14at8484 v A) (fun _ _ => false)) = true := by decide +kernel
theorem LVep37at10379k : run Go.Proofs.Tryz.prog (cfO []) 100000 (.call 37 LVep37at10379.args (oraA (p 10379) LVep37at10379) (fun v A => oraE LVep37at10379 v A) (fun _ _ => false)) = true := by decide +kernel
theorem LVep14at9832k : run Go.Proofs.Tryz.prog (cfO [(37,p 10379,LVep37at10379)]) 100000 (.call 14 LVep14at9832.args (oraA (p 9832) LVep14at9832) (fun v A => oraE LVep14at9832 v A) (fun _ _ => false)) = true := by decide +kernel
theorem LVep6at257k : run Go.Proofs.Tryz.prog (cfO [(14,p 879,LVep14at879),(14,p 1578,LVep14at1578),(14,p 2206,LVep14at2206),(14,p 2905,LVep14at2905),(20,p 7353,LVep20at7353),(14,p 8484,LVep14at8484),(14,p 9832,LVep14at9832)]) 100000 (.call 6 LVep6at257.args (oraA (p 257) LVep6at257) (fun v A => oraE LVep6at257 v A) (fun _ _ => false)) = true := by decide +kernel
theorem LVfp14at879k : run Go.Proofs.Tryz.prog (cfO []) 100000 (.call 14 LVfp14at879.args (oraA (p 879) LVfp14at879) (fun v A => oraE LVfp14at879 v A) (fun _ _ => false)) = true := by decide +kernel
theorem LVfp14at1578k : run Go.Proofs.Tryz.prog (cfO []) 100000 (.call 14 LVfp14at1578.args (oraA (p 1578) LVfp14at1578) (fun v A => oraE LVfp14at1578 v A) (fun _ _ => false)) = true := by decide +kernel
theorem LVfp14at2206k : run Go.Proofs.Tryz.prog (cfO []) 100000 (.call 14 LVfp14at2206.args (oraA (p 2206) LVfp14at2206) (fun v A => oraE LVfp14at2206 v A) (fun _ _ => false)) = true := by decide +kernel
theorem LVfp43at5645k : run Go.Proofs.Tryz.prog (cfO []) 100000 (.call 43 LVfp43at5645.args (oraA (p 5645) LVfp43at5645) (fun v A => oraE LVfp43at5645 v A) (fun _ _ => false)) = true := by decide +kernel
theorem LVfp298at5645k : run Go.Proofs.Tryz.prog (cfO [(43,p 5645,LVfp43at5645)]) 100000 (.call 298 LVfp298at5645.args (oraA (p 5645) LVfp298at5645) (fun v A => oraE LVfp298at5645 v A) (fun _ _ => false)) = true := by decide +kernel
theorem LVfp183at4948k : run Go.Proofs.Tryz.prog (cfO [(298,p 5645,LVfp298at5645)]) 100000 (.call 183 LVfp183at4948.args (oraA (p 4948) LVfp183at4948) (fun v A => oraE LVfp183at4948 v A) (fun _ _ => false)) = true := by decide +kernel
theorem LVfp37at4047k : run Go.Proofs.Tryz.prog (cfO [(183,p 4948,LVfp183at4948)]) 100000 (.call 37 LVfp37at4047.args (oraA (p 4047) LVfp37at4047) (fun v A => oraE LVfp37at4047 v A) (fun _ _ => false)) = true := by decide +kernel
theorem LVfp14at2905k : run Go.Proofs.Tryz.prog (cfO [(37,p 4047,LVfp37at4047)]) 100000 (.call 14 LVfp14at2905.args (oraA (p 2905) LVfp14at2905) (fun v A => oraE LVfp14at2905 v A) (fun _ _ => false)) = true := by decide +kernel
theorem LVfp20at7353k : run Go.Proofs.Tryz.prog (cfO []) 100000 (.call 20 LVfp20at7353.args (oraA (p 7353) LVfp20at7353) (fun v A => oraE LVfp20at7353 v A) (fun _ _ => false)) = true := by decide +kernel
theorem LVfp37at9031k : run Go.Proofs.Tryz.prog (cfO []) 100000 (.call 37 LVfp37at9031.args (oraA (p 9031) LVfp37at9031) (fun v A => oraE LVfp37at9031 v A) (fun _ _ => false)) = true := by decide +kernel
end
end Go.Ai
