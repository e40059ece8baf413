/- The run of the law on abstract values, in pieces. -/
import Derived.Test.YticjebnbcnphkaaGreatDoorZKLV0

namespace Go.Ai
noncomputable section
def LVcls (n : Nat) : List (Nat × Pa × Ora) := match Nat.mod n 7 with
  | 0 => [(6,p 257,LVap6at257)]
  | 1 => [(6,p 257,LVbp6at257)]
  | 2 => [(6,p 257,LVcp6at257)]
  | 3 => [(6,p 257,LVdp6at257)]
  | 4 => [(6,p 257,LVep6at257)]
  | 5 => [(6,p 257,LVfp6at257)]
  | _ => [(6,p 257,LVgp6at257)]
def LVK : KV := fun v _ => match v with | .bool b => b | _ => false
theorem LVall : ∀ n < 256, run Go.Proofs.Tryz.prog (cfO (LVcls n)) 100000 (.call 5 [.nat .u8 n] A0 LVK (fun _ _ => false)) = true := by decide +kernel
theorem LVno : ∀ n < 256, findO 5 A0.next (LVcls n) = none := by decide +kernel
end
end Go.Ai
