/- The run of the law on abstract values, in pieces. -/
import Derived.Test.YticjebnbcnphkaaGreatDoorZKTR0

namespace Go.Ai
noncomputable section
open TR
def TRcls (n : Nat) : List (Nat × Pa × Ora) := match Nat.mod n 5 with
  | 0 => [x7]
  | 1 => [x22]
  | 2 => [x44]
  | 3 => [x73]
  | _ => [x110]
def TRK : KV := fun v _ => match v with | .bool b => b | _ => false
theorem TRall : ∀ n < 256, run Go.Proofs.Tryz.prog (cfO (TRcls n)) 100000 (.call 4 [.nat .u8 n] A0 TRK (fun _ _ => false)) = true := by decide +kernel
theorem TRno : ∀ n < 256, findO 4 A0.next (TRcls n) = none := by decide +kernel
end
end Go.Ai
