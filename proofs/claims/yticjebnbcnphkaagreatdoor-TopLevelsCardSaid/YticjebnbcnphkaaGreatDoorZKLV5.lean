/- The run of the law on abstract values, in pieces. -/
import Derived.Test.YticjebnbcnphkaaGreatDoorZKLV0

namespace Go.Ai
noncomputable section
theorem LVfp14at8484k : run Go.Proofs.Tryz.prog (cfO [(37,p 9031,LVfp37at9031)]) 100000 (.call 14 LVfp14at8484.args (oraA (p 8484) LVfp14at8484) (fun v A => oraE LVfp14at8484 v A) (fun _ _ => false)) = true := by decide +kernel
theorem LVfp37at10379k : run Go.Proofs.Tryz.prog (cfO []) 100000 (.call 37 LVfp37at10379.args (oraA (p 10379) LVfp37at10379) (fun v A => oraE LVfp37at10379 v A) (fun _ _ => false)) = true := by decide +kernel
theorem LVfp14at9832k : run Go.Proofs.Tryz.prog (cfO [(37,p 10379,LVfp37at10379)]) 100000 (.call 14 LVfp14at9832.args (oraA (p 9832) LVfp14at9832) (fun v A => oraE LVfp14at9832 v A) (fun _ _ => false)) = true := by decide +kernel
theorem LVfp6at257k : run Go.Proofs.Tryz.prog (cfO [(14,p 879,LVfp14at879),(14,p 1578,LVfp14at1578),(14,p 2206,LVfp14at2206),(14,p 2905,LVfp14at2905),(20,p 7353,LVfp20at7353),(14,p 8484,LVfp14at8484),(14,p 9832,LVfp14at9832)]) 100000 (.call 6 LVfp6at257.args (oraA (p 257) LVfp6at257) (fun v A => oraE LVfp6at257 v A) (fun _ _ => false)) = true := by decide +kernel
theorem LVgp14at879k : run Go.Proofs.Tryz.prog (cfO []) 100000 (.call 14 LVgp14at879.args (oraA (p 879) LVgp14at879) (fun v A => oraE LVgp14at879 v A) (fun _ _ => false)) = true := by decide +kernel
theorem LVgp14at1578k : run Go.Proofs.Tryz.prog (cfO []) 100000 (.call 14 LVgp14at1578.args (oraA (p 1578) LVgp14at1578) (fun v A => oraE LVgp14at1578 v A) (fun _ _ => false)) = true := by decide +kernel
theorem LVgp14at2206k : run Go.Proofs.Tryz.prog (cfO []) 100000 (.call 14 LVgp14at2206.args (oraA (p 2206) LVgp14at2206) (fun v A => oraE LVgp14at2206 v A) (fun _ _ => false)) = true := by decide +kernel
theorem LVgp43at5645k : run Go.Proofs.Tryz.prog (cfO []) 100000 (.call 43 LVgp43at5645.args (oraA (p 5645) LVgp43at5645) (fun v A => oraE LVgp43at5645 v A) (fun _ _ => false)) = true := by decide +kernel
theorem LVgp298at5645k : run Go.Proofs.Tryz.prog (cfO [(43,p 5645,LVgp43at5645)]) 100000 (.call 298 LVgp298at5645.args (oraA (p 5645) LVgp298at5645) (fun v A => oraE LVgp298at5645 v A) (fun _ _ => false)) = true := by decide +kernel
theorem LVgp183at4948k : run Go.Proofs.Tryz.prog (cfO [(298,p 5645,LVgp298at5645)]) 100000 (.call 183 LVgp183at4948.args (oraA (p 4948) LVgp183at4948) (fun v A => oraE LVgp183at4948 v A) (fun _ _ => false)) = true := by decide +kernel
theorem LVgp37at4047k : run Go.Proofs.Tryz.prog (cfO [(183,p 4948,LVgp183at4948)]) 100000 (.call 37 LVgp37at4047.args (oraA (p 4047) LVgp37at4047) (fun v A => oraE LVgp37at4047 v A) (fun _ _ => false)) = true := by decide +kernel
theorem LVgp14at2905k : run Go.Proofs.Tryz.prog (cfO [(37,p 4047,LVgp37at4047)]) 100000 (.call 14 LVgp14at2905.args (oraA (p 2905) LVgp14at2905) (fun v A => oraE LVgp14at2905 v A) (fun _ _ => false)) = true := by decide +kernel
theorem LVgp20at7353k : run Go.Proofs.Tryz.prog (cfO []) 100000 (.call 20 LVgp20at7353.args (oraA (p 7353) LVgp20at7353) (fun v A => oraE LVgp20at7353 v A) (fun _ _ => false)) = true := by decide +kernel
theorem LVgp37at9031k : run Go.Proofs.Tryz.prog (cfO []) 100000 (.call 37 LVgp37at9031.args (oraA (p 9031) LVgp37at9031) (fun v A => oraE LVgp37at9031 v A) (fun _ _ => false)) = true := by decide +kernel
theorem LVgp14at8484k : run Go.Proofs.Tryz.prog (cfO [(37,p 9031,LVgp37at9031)]) 100000 (.call 14 LVgp14at8484.args (oraA (p 8484) LVgp14at8484) (fun v A => oraE LVgp14at8484 v A) (fun _ _ => false)) = true := by decide +kernel
theorem LVgp37at10379k : run Go.Proofs.Tryz.prog (cfO []) 100000 (.call 37 LVgp37at10379.args (oraA (p 10379) LVgp37at10379) (fun v A => oraE LVgp37at10379 v A) (fun _ _ => false)) = true := by decide +kernel
theorem LVgp14at9832k : run Go.Proofs.Tryz.prog (cfO [(37,p 10379,LVgp37at10379)]) 100000 (.call 14 LVgp14at9832.args (oraA (p 9832) LVgp14at9832) (fun v A => oraE LVgp14at9832 v A) (fun _ _ => false)) = true := by decide +kernel
theorem LVgp6at257k : run Go.Proofs.Tryz.prog (cfO [(14,p 879,LVgp14at879),(14,p 1578,LVgp14at1578),(14,p 2206,LVgp14at2206),(14,p 2905,LVgp14at2905),(20,p 7353,LVgp20at7353),(14,p 8484,LVgp14at8484),(14,p 9832,LVgp14at9832)]) 100000 (.call 6 LVgp6at257.args (oraA (p 257) LVgp6at257) (fun v A => oraE LVgp6at257 v A) (fun _ _ => false)) = true := by decide +kernel
end
end Go.Ai
