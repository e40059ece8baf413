/- The run of the law on abstract values, in pieces. -/
import Derived.Test.YticjebnbcnphkaaGreatDoorZKLV0

namespace Go.Ai
noncomputable section
theorem LVcp14at9832k : run Go.Proofs.Tryz.prog (cfO [(37,p 10379,LVcp37at10379)]) 100000 (.call 14 LVcp14at9832.args (oraA (p 9832) LVcp14at9832) (fun v A => oraE LVcp14at9832 v A) (fun _ _ => false)) = true := by decide +kernel
theorem LVcp6at257k : run Go.Proofs.Tryz.prog (cfO [(14,p 879,LVcp14at879),(14,p 1578,LVcp14at1578),(14,p 2206,LVcp14at2206),(14,p 2905,LVcp14at2905),(20,p 7353,LVcp20at7353),(14,p 8484,LVcp14at8484),(14,p 9832,LVcp14at9832)]) 100000 (.call 6 LVcp6at257.args (oraA (p 257) LVcp6at257) (fun v A => oraE LVcp6at257 v A) (fun _ _ => false)) = true := by decide +kernel
theorem LVdp14at879k : run Go.Proofs.Tryz.prog (cfO []) 100000 (.call 14 LVdp14at879.args (oraA (p 879) LVdp14at879) (fun v A => oraE LVdp14at879 v A) (fun _ _ => false)) = true := by decide +kernel
theorem LVdp14at1578k : run Go.Proofs.Tryz.prog (cfO []) 100000 (.call 14 LVdp14at1578.args (oraA (p 1578) LVdp14at1578) (fun v A => oraE LVdp14at1578 v A) (fun _ _ => false)) = true := by decide +kernel
theorem LVdp14at2206k : run Go.Proofs.Tryz.prog (cfO []) 100000 (.call 14 LVdp14at2206.args (oraA (p 2206) LVdp14at2206) (fun v A => oraE LVdp14at2206 v A) (fun _ _ => false)) = true := by decide +kernel
theorem LVdp43at5645k : run Go.Proofs.Tryz.prog (cfO []) 100000 (.call 43 LVdp43at5645.args (oraA (p 5645) LVdp43at5645) (fun v A => oraE LVdp43at5645 v A) (fun _ _ => false)) = true := by decide +kernel
theorem LVdp298at5645k : run Go.Proofs.Tryz.prog (cfO [(43,p 5645,LVdp43at5645)]) 100000 (.call 298 LVdp298at5645.args (oraA (p 5645) LVdp298at5645) (fun v A => oraE LVdp298at5645 v A) (fun _ _ => false)) = true := by decide +kernel
theorem LVdp183at4948k : run Go.Proofs.Tryz.prog (cfO [(298,p 5645,LVdp298at5645)]) 100000 (.call 183 LVdp183at4948.args (oraA (p 4948) LVdp183at4948) (fun v A => oraE LVdp183at4948 v A) (fun _ _ => false)) = true := by decide +kernel
theorem LVdp37at4047k : run Go.Proofs.Tryz.prog (cfO [(183,p 4948,LVdp183at4948)]) 100000 (.call 37 LVdp37at4047.args (oraA (p 4047) LVdp37at4047) (fun v A => oraE LVdp37at4047 v A) (fun _ _ => false)) = true := by decide +kernel
theorem LVdp14at2905k : run Go.Proofs.Tryz.prog (cfO [(37,p 4047,LVdp37at4047)]) 100000 (.call 14 LVdp14at2905.args (oraA (p 2905) LVdp14at2905) (fun v A => oraE LVdp14at2905 v A) (fun _ _ => false)) = true := by decide +kernel
theorem LVdp20at7353k : run Go.Proofs.Tryz.prog (cfO []) 100000 (.call 20 LVdp20at7353.args (oraA (p 7353) LVdp20at7353) (fun v A => oraE LVdp20at7353 v A) (fun _ _ => false)) = true := by decide +kernel
theorem LVdp37at9031k : run Go.Proofs.Tryz.prog (cfO []) 100000 (.call 37 LVdp37at9031.args (oraA (p 9031) LVdp37at9031) (fun v A => oraE LVdp37at9031 v A) (fun _ _ => false)) = true := by decide +kernel
theorem LVdp14at8484k : run Go.Proofs.Tryz.prog (cfO [(37,p 9031,LVdp37at9031)]) 100000 (.call 14 LVdp14at8484.args (oraA (p 8484) LVdp14at8484) (fun v A => oraE LVdp14at8484 v A) (fun _ _ => false)) = true := by decide +kernel
theorem LVdp37at10379k : run Go.Proofs.Tryz.prog (cfO []) 100000 (.call 37 LVdp37at10379.args (oraA (p 10379) LVdp37at10379) (fun v A => oraE LVdp37at10379 v A) (fun _ _ => false)) = true := by decide +kernel
theorem LVdp14at9832k : run Go.Proofs.Tryz.prog (cfO [(37,p 10379,LVdp37at10379)]) 100000 (.call 14 LVdp14at9832.args (oraA (p 9832) LVdp14at9832) (fun v A => oraE LVdp14at9832 v A) (fun _ _ => false)) = true := by decide +kernel
theorem LVdp6at257k : run Go.Proofs.Tryz.prog (cfO [(14,p 879,LVdp14at879),(14,p 1578,LVdp14at1578),(14,p 2206,LVdp14at2206),(14,p 2905,LVdp14at2905),(20,p 7353,LVdp20at7353),(14,p 8484,LVdp14at8484),(14,p 9832,LVdp14at9832)]) 100000 (.call 6 LVdp6at257.args (oraA (p 257) LVdp6at257) (fun v A => oraE LVdp6at257 v A) (fun _ _ => false)) = true := by decide +kernel
theorem LVep14at879k : run Go.Proofs.Tryz.prog (cfO []) 100000 (.call 14 LVep14at879.args (oraA (p 879) LVep14at879) (fun v A => oraE LVep14at879 v A) (fun _ _ => false)) = true := by decide +kernel
theorem LVep14at1578k : run Go.Proofs.Tryz.prog (cfO []) 100000 (.call 14 LVep14at1578.args (oraA (p 1578) LVep14at1578) (fun v A => oraE LVep14at1578 v A) (fun _ _ => false)) = true := by decide +kernel
theorem LVep14at2206k : run Go.Proofs.Tryz.prog (cfO []) 100000 (.call 14 LVep14at2206.args (oraA (p 2206) LVep14at2206) (fun v A => oraE LVep14at2206 v A) (fun _ _ => false)) = true := by decide +kernel
theorem LVep43at5645k : run Go.Proofs.Tryz.prog (cfO []) 100000 (.call 43 LVep43at5645.args (oraA (p 5645) LVep43at5645) (fun v A => oraE LVep43at5645 v A) (fun _ _ => false)) = true := by decide +kernel
end
end Go.Ai
