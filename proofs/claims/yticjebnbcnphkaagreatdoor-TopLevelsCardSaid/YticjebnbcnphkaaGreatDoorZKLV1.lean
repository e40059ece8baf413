/- The run of the law on abstract values, in pieces. -/
import Derived.Test.YticjebnbcnphkaaGreatDoorZKLV0

namespace Go.Ai
noncomputable section
theorem LVap14at879k : run Go.Proofs.Tryz.prog (cfO []) 100000 (.call 14 LVap14at879.args (oraA (p 879) LVap14at879) (fun v A => oraE LVap14at879 v A) (fun _ _ => false)) = true := by decide +kernel
theorem LVap14at1578k : run Go.Proofs.Tryz.prog (cfO []) 100000 (.call 14 LVap14at1578.args (oraA (p 1578) LVap14at1578) (fun v A => oraE LVap14at1578 v A) (fun _ _ => false)) = true := by decide +kernel
theorem LVap14at2206k : run Go.Proofs.Tryz.prog (cfO []) 100000 (.call 14 LVap14at2206.args (oraA (p 2206) LVap14at2206) (fun v A => oraE LVap14at2206 v A) (fun _ _ => false)) = true := by decide +kernel
theorem LVap43at5645k : run Go.Proofs.Tryz.prog (cfO []) 100000 (.call 43 LVap43at5645.args (oraA (p 5645) LVap43at5645) (fun v A => oraE LVap43at5645 v A) (fun _ _ => false)) = true := by decide +kernel
theorem LVap298at5645k : run Go.Proofs.Tryz.prog (cfO [(43,p 5645,LVap43at5645)]) 100000 (.call 298 LVap298at5645.args (oraA (p 5645) LVap298at5645) (fun v A => oraE LVap298at5645 v A) (fun _ _ => false)) = true := by decide +kernel
theorem LVap183at4948k : run Go.Proofs.Tryz.prog (cfO [(298,p 5645,LVap298at5645)]) 100000 (.call 183 LVap183at4948.args (oraA (p 4948) LVap183at4948) (fun v A => oraE LVap183at4948 v A) (fun _ _ => false)) = true := by decide +kernel
theorem LVap37at4047k : run Go.Proofs.Tryz.prog (cfO [(183,p 4948,LVap183at4948)]) 100000 (.call 37 LVap37at4047.args (oraA (p 4047) LVap37at4047) (fun v A => oraE LVap37at4047 v A) (fun _ _ => false)) = true := by decide +kernel
theorem LVap14at2905k : run Go.Proofs.Tryz.prog (cfO [(37,p 4047,LVap37at4047)]) 100000 (.call 14 LVap14at2905.args (oraA (p 2905) LVap14at2905) (fun v A => oraE LVap14at2905 v A) (fun _ _ => false)) = true := by decide +kernel
theorem LVap20at7353k : run Go.Proofs.Tryz.prog (cfO []) 100000 (.call 20 LVap20at7353.args (oraA (p 7353) LVap20at7353) (fun v A => oraE LVap20at7353 v A) (fun _ _ => false)) = true := by decide +kernel
theorem LVap37at9031k : run Go.Proofs.Tryz.prog (cfO []) 100000 (.call 37 LVap37at9031.args (oraA (p 9031) LVap37at9031) (fun v A => oraE LVap37at9031 v A) (fun _ _ => false)) = true := by decide +kernel
theorem LVap14at8484k : run Go.Proofs.Tryz.prog (cfO [(37,p 9031,LVap37at9031)]) 100000 (.call 14 LVap14at8484.args (oraA (p 8484) LVap14at8484) (fun v A => oraE LVap14at8484 v A) (fun _ _ => false)) = true := by decide +kernel
theorem LVap37at10379k : run Go.Proofs.Tryz.prog (cfO []) 100000 (.call 37 LVap37at10379.args (oraA (p 10379) LVap37at10379) (fun v A => oraE LVap37at10379 v A) (fun _ _ => false)) = true := by decide +kernel
theorem LVap14at9832k : run Go.Proofs.Tryz.prog (cfO [(37,p 10379,LVap37at10379)]) 100000 (.call 14 LVap14at9832.args (oraA (p 9832) LVap14at9832) (fun v A => oraE LVap14at9832 v A) (fun _ _ => false)) = true := by decide +kernel
theorem LVap6at257k : run Go.Proofs.Tryz.prog (cfO [(14,p 879,LVap14at879),(14,p 1578,LVap14at1578),(14,p 2206,LVap14at2206),(14,p 2905,LVap14at2905),(20,p 7353,LVap20at7353),(14,p 8484,LVap14at8484),(14,p 9832,LVap14at9832)]) 100000 (.call 6 LVap6at257.args (oraA (p 257) LVap6at257) (fun v A => oraE LVap6at257 v A) (fun _ _ => false)) = true := by decide +kernel
theorem LVbp14at879k : run Go.Proofs.Tryz.prog (cfO []) 100000 (.call 14 LVbp14at879.args (oraA (p 879) LVbp14at879) (fun v A => oraE LVbp14at879 v A) (fun _ _ => false)) = true := by decide +kernel
theorem LVbp14at1578k : run Go.Proofs.Tryz.prog (cfO []) 100000 (.call 14 LVbp14at1578.args (oraA (p 1578) LVbp14at1578) (fun v A => oraE LVbp14at1578 v A) (fun _ _ => false)) = true := by decide +kernel
theorem LVbp14at2206k : run Go.Proofs.Tryz.prog (cfO []) 100000 (.call 14 LVbp14at2206.args (oraA (p 2206) LVbp14at2206) (fun v A => oraE LVbp14at2206 v A) (fun _ _ => false)) = true := by decide +kernel
theorem LVbp43at5645k : run Go.Proofs.Tryz.prog (cfO []) 100000 (.call 43 LVbp43at5645.args (oraA (p 5645) LVbp43at5645) (fun v A => oraE LVbp43at5645 v A) (fun _ _ => false)) = true := by decide +kernel
theorem LVbp298at5645k : run Go.Proofs.Tryz.prog (cfO [(43,p 5645,LVbp43at5645)]) 100000 (.call 298 LVbp298at5645.args (oraA (p 5645) LVbp298at5645) (fun v A => oraE LVbp298at5645 v A) (fun _ _ => false)) = true := by decide +kernel
theorem LVbp183at4948k : run Go.Proofs.Tryz.prog (cfO [(298,p 5645,LVbp298at5645)]) 100000 (.call 183 LVbp183at4948.args (oraA (p 4948) LVbp183at4948) (fun v A => oraE LVbp183at4948 v A) (fun _ _ => false)) = true := by decide +kernel
end
end Go.Ai
