/- The run of the law on abstract values, in pieces. -/
import Derived.Test.YticjebnbcnphkaaGreatDoorZKLV0

namespace Go.Ai
noncomputable section
theorem LVbp37at4047k : run Go.Proofs.Tryz.prog (cfO [(183,p 4948,LVbp183at4948)]) 100000 (.call 37 LVbp37at4047.args (oraA (p 4047) LVbp37at4047) (fun v A => oraE LVbp37at4047 v A) (fun _ _ => false)) = true := by decide +kernel
theorem LVbp14at2905k : run Go.Proofs.Tryz.prog (cfO [(37,p 4047,LVbp37at4047)]) 100000 (.call 14 LVbp14at2905.args (oraA (p 2905) LVbp14at2905) (fun v A => oraE LVbp14at2905 v A) (fun _ _ => false)) = true := by decide +kernel
theorem LVbp20at7353k : run Go.Proofs.Tryz.prog (cfO []) 100000 (.call 20 LVbp20at7353.args (oraA (p 7353) LVbp20at7353) (fun v A => oraE LVbp20at7353 v A) (fun _ _ => false)) = true := by decide +kernel
theorem LVbp37at9031k : run Go.Proofs.Tryz.prog (cfO []) 100000 (.call 37 LVbp37at9031.args (oraA (p 9031) LVbp37at9031) (fun v A => oraE LVbp37at9031 v A) (fun _ _ => false)) = true := by decide +kernel
theorem LVbp14at8484k : run Go.Proofs.Tryz.prog (cfO [(37,p 9031,LVbp37at9031)]) 100000 (.call 14 LVbp14at8484.args (oraA (p 8484) LVbp14at8484) (fun v A => oraE LVbp14at8484 v A) (fun _ _ => false)) = true := by decide +kernel
theorem LVbp37at10379k : run Go.Proofs.Tryz.prog (cfO []) 100000 (.call 37 LVbp37at10379.args (oraA (p 10379) LVbp37at10379) (fun v A => oraE LVbp37at10379 v A) (fun _ _ => false)) = true := by decide +kernel
theorem LVbp14at9832k : run Go.Proofs.Tryz.prog (cfO [(37,p 10379,LVbp37at10379)]) 100000 (.call 14 LVbp14at9832.args (oraA (p 9832) LVbp14at9832) (fun v A => oraE LVbp14at9832 v A) (fun _ _ => false)) = true := by decide +kernel
theorem LVbp6at257k : run Go.Proofs.Tryz.prog (cfO [(14,p 879,LVbp14at879),(14,p 1578,LVbp14at1578),(14,p 2206,LVbp14at2206),(14,p 2905,LVbp14at2905),(20,p 7353,LVbp20at7353),(14,p 8484,LVbp14at8484),(14,p 9832,LVbp14at9832)]) 100000 (.call 6 LVbp6at257.args (oraA (p 257) LVbp6at257) (fun v A => oraE LVbp6at257 v A) (fun _ _ => false)) = true := by decide +kernel
theorem LVcp14at879k : run Go.Proofs.Tryz.prog (cfO []) 100000 (.call 14 LVcp14at879.args (oraA (p 879) LVcp14at879) (fun v A => oraE LVcp14at879 v A) (fun _ _ => false)) = true := by decide +kernel
theorem LVcp14at1578k : run Go.Proofs.Tryz.prog (cfO []) 100000 (.call 14 LVcp14at1578.args (oraA (p 1578) LVcp14at1578) (fun v A => oraE LVcp14at1578 v A) (fun _ _ => false)) = true := by decide +kernel
theorem LVcp14at2206k : run Go.Proofs.Tryz.prog (cfO []) 100000 (.call 14 LVcp14at2206.args (oraA (p 2206) LVcp14at2206) (fun v A => oraE LVcp14at2206 v A) (fun _ _ => false)) = true := by decide +kernel
theorem LVcp43at5645k : run Go.Proofs.Tryz.prog (cfO []) 100000 (.call 43 LVcp43at5645.args (oraA (p 5645) LVcp43at5645) (fun v A => oraE LVcp43at5645 v A) (fun _ _ => false)) = true := by decide +kernel
theorem LVcp298at5645k : run Go.Proofs.Tryz.prog (cfO [(43,p 5645,LVcp43at5645)]) 100000 (.call 298 LVcp298at5645.args (oraA (p 5645) LVcp298at5645) (fun v A => oraE LVcp298at5645 v A) (fun _ _ => false)) = true := by decide +kernel
theorem LVcp183at4948k : run Go.Proofs.Tryz.prog (cfO [(298,p 5645,LVcp298at5645)]) 100000 (.call 183 LVcp183at4948.args (oraA (p 4948) LVcp183at4948) (fun v A => oraE LVcp183at4948 v A) (fun _ _ => false)) = true := by decide +kernel
theorem LVcp37at4047k : run Go.Proofs.Tryz.prog (cfO [(183,p 4948,LVcp183at4948)]) 100000 (.call 37 LVcp37at4047.args (oraA (p 4047) LVcp37at4047) (fun v A => oraE LVcp37at4047 v A) (fun _ _ => false)) = true := by decide +kernel
theorem LVcp14at2905k : run Go.Proofs.Tryz.prog (cfO [(37,p 4047,LVcp37at4047)]) 100000 (.call 14 LVcp14at2905.args (oraA (p 2905) LVcp14at2905) (fun v A => oraE LVcp14at2905 v A) (fun _ _ => false)) = true := by decide +kernel
theorem LVcp20at7353k : run Go.Proofs.Tryz.prog (cfO []) 100000 (.call 20 LVcp20at7353.args (oraA (p 7353) LVcp20at7353) (fun v A => oraE LVcp20at7353 v A) (fun _ _ => false)) = true := by decide +kernel
theorem LVcp37at9031k : run Go.Proofs.Tryz.prog (cfO []) 100000 (.call 37 LVcp37at9031.args (oraA (p 9031) LVcp37at9031) (fun v A => oraE LVcp37at9031 v A) (fun _ _ => false)) = true := by decide +kernel
theorem LVcp14at8484k : run Go.Proofs.Tryz.prog (cfO [(37,p 9031,LVcp37at9031)]) 100000 (.call 14 LVcp14at8484.args (oraA (p 8484) LVcp14at8484) (fun v A => oraE LVcp14at8484 v A) (fun _ _ => false)) = true := by decide +kernel
theorem LVcp37at10379k : run Go.Proofs.Tryz.prog (cfO []) 100000 (.call 37 LVcp37at10379.args (oraA (p 10379) LVcp37at10379) (fun v A => oraE LVcp37at10379 v A) (fun _ _ => false)) = true := by decide +kernel
end
end Go.Ai
