/- The pieces are sound; so is the run. -/
import Derived.Test.YticjebnbcnphkaaGreatDoorZF20
import Derived.Test.YticjebnbcnphkaaGreatDoorZKLV0
import Derived.Test.YticjebnbcnphkaaGreatDoorZKLV1
import Derived.Test.YticjebnbcnphkaaGreatDoorZKLV2
import Derived.Test.YticjebnbcnphkaaGreatDoorZKLV3
import Derived.Test.YticjebnbcnphkaaGreatDoorZKLV4
import Derived.Test.YticjebnbcnphkaaGreatDoorZKLV5
import Derived.Test.YticjebnbcnphkaaGreatDoorZKLVt

set_option linter.unusedSimpArgs false
set_option linter.unusedVariables false
set_option linter.unusedSectionVars false

namespace Go.Ai
open Go Go.Proofs
theorem LVap14at879s : Shown (14, p 879, LVap14at879) := piece shown_nil (by decide +kernel) LVap14at879k
theorem LVap14at1578s : Shown (14, p 1578, LVap14at1578) := piece shown_nil (by decide +kernel) LVap14at1578k
theorem LVap14at2206s : Shown (14, p 2206, LVap14at2206) := piece shown_nil (by decide +kernel) LVap14at2206k
theorem LVap43at5645s : Shown (43, p 5645, LVap43at5645) := piece shown_nil (by decide +kernel) LVap43at5645k
theorem LVap298at5645s : Shown (298, p 5645, LVap298at5645) := piece (shown_cons LVap43at5645s shown_nil) (by decide +kernel) LVap298at5645k
theorem LVap183at4948s : Shown (183, p 4948, LVap183at4948) := piece (shown_cons LVap298at5645s shown_nil) (by decide +kernel) LVap183at4948k
theorem LVap37at4047s : Shown (37, p 4047, LVap37at4047) := piece (shown_cons LVap183at4948s shown_nil) (by decide +kernel) LVap37at4047k
theorem LVap14at2905s : Shown (14, p 2905, LVap14at2905) := piece (shown_cons LVap37at4047s shown_nil) (by decide +kernel) LVap14at2905k
theorem LVap20at7353s : Shown (20, p 7353, LVap20at7353) := piece shown_nil (by decide +kernel) LVap20at7353k
theorem LVap37at9031s : Shown (37, p 9031, LVap37at9031) := piece shown_nil (by decide +kernel) LVap37at9031k
theorem LVap14at8484s : Shown (14, p 8484, LVap14at8484) := piece (shown_cons LVap37at9031s shown_nil) (by decide +kernel) LVap14at8484k
theorem LVap37at10379s : Shown (37, p 10379, LVap37at10379) := piece shown_nil (by decide +kernel) LVap37at10379k
theorem LVap14at9832s : Shown (14, p 9832, LVap14at9832) := piece (shown_cons LVap37at10379s shown_nil) (by decide +kernel) LVap14at9832k
theorem LVap6at257s : Shown (6, p 257, LVap6at257) := piece (shown_cons LVap14at879s (shown_cons LVap14at1578s (shown_cons LVap14at2206s (shown_cons LVap14at2905s (shown_cons LVap20at7353s (shown_cons LVap14at8484s (shown_cons LVap14at9832s shown_nil))))))) (by decide +kernel) LVap6at257k
theorem LVbp14at879s : Shown (14, p 879, LVbp14at879) := piece shown_nil (by decide +kernel) LVbp14at879k
theorem LVbp14at1578s : Shown (14, p 1578, LVbp14at1578) := piece shown_nil (by decide +kernel) LVbp14at1578k
theorem LVbp14at2206s : Shown (14, p 2206, LVbp14at2206) := piece shown_nil (by decide +kernel) LVbp14at2206k
theorem LVbp43at5645s : Shown (43, p 5645, LVbp43at5645) := piece shown_nil (by decide +kernel) LVbp43at5645k
theorem LVbp298at5645s : Shown (298, p 5645, LVbp298at5645) := piece (shown_cons LVbp43at5645s shown_nil) (by decide +kernel) LVbp298at5645k
theorem LVbp183at4948s : Shown (183, p 4948, LVbp183at4948) := piece (shown_cons LVbp298at5645s shown_nil) (by decide +kernel) LVbp183at4948k
theorem LVbp37at4047s : Shown (37, p 4047, LVbp37at4047) := piece (shown_cons LVbp183at4948s shown_nil) (by decide +kernel) LVbp37at4047k
theorem LVbp14at2905s : Shown (14, p 2905, LVbp14at2905) := piece (shown_cons LVbp37at4047s shown_nil) (by decide +kernel) LVbp14at2905k
theorem LVbp20at7353s : Shown (20, p 7353, LVbp20at7353) := piece shown_nil (by decide +kernel) LVbp20at7353k
theorem LVbp37at9031s : Shown (37, p 9031, LVbp37at9031) := piece shown_nil (by decide +kernel) LVbp37at9031k
theorem LVbp14at8484s : Shown (14, p 8484, LVbp14at8484) := piece (shown_cons LVbp37at9031s shown_nil) (by decide +kernel) LVbp14at8484k
theorem LVbp37at10379s : Shown (37, p 10379, LVbp37at10379) := piece shown_nil (by decide +kernel) LVbp37at10379k
theorem LVbp14at9832s : Shown (14, p 9832, LVbp14at9832) := piece (shown_cons LVbp37at10379s shown_nil) (by decide +kernel) LVbp14at9832k
theorem LVbp6at257s : Shown (6, p 257, LVbp6at257) := piece (shown_cons LVbp14at879s (shown_cons LVbp14at1578s (shown_cons LVbp14at2206s (shown_cons LVbp14at2905s (shown_cons LVbp20at7353s (shown_cons LVbp14at8484s (shown_cons LVbp14at9832s shown_nil))))))) (by decide +kernel) LVbp6at257k
theorem LVcp14at879s : Shown (14, p 879, LVcp14at879) := piece shown_nil (by decide +kernel) LVcp14at879k
theorem LVcp14at1578s : Shown (14, p 1578, LVcp14at1578) := piece shown_nil (by decide +kernel) LVcp14at1578k
theorem LVcp14at2206s : Shown (14, p 2206, LVcp14at2206) := piece shown_nil (by decide +kernel) LVcp14at2206k
theorem LVcp43at5645s : Shown (43, p 5645, LVcp43at5645) := piece shown_nil (by decide +kernel) LVcp43at5645k
theorem LVcp298at5645s : Shown (298, p 5645, LVcp298at5645) := piece (shown_cons LVcp43at5645s shown_nil) (by decide +kernel) LVcp298at5645k
theorem LVcp183at4948s : Shown (183, p 4948, LVcp183at4948) := piece (shown_cons LVcp298at5645s shown_nil) (by decide +kernel) LVcp183at4948k
theorem LVcp37at4047s : Shown (37, p 4047, LVcp37at4047) := piece (shown_cons LVcp183at4948s shown_nil) (by decide +kernel) LVcp37at4047k
theorem LVcp14at2905s : Shown (14, p 2905, LVcp14at2905) := piece (shown_cons LVcp37at4047s shown_nil) (by decide +kernel) LVcp14at2905k
theorem LVcp20at7353s : Shown (20, p 7353, LVcp20at7353) := piece shown_nil (by decide +kernel) LVcp20at7353k
theorem LVcp37at9031s : Shown (37, p 9031, LVcp37at9031) := piece shown_nil (by decide +kernel) LVcp37at9031k
theorem LVcp14at8484s : Shown (14, p 8484, LVcp14at8484) := piece (shown_cons LVcp37at9031s shown_nil) (by decide +kernel) LVcp14at8484k
theorem LVcp37at10379s : Shown (37, p 10379, LVcp37at10379) := piece shown_nil (by decide +kernel) LVcp37at10379k
theorem LVcp14at9832s : Shown (14, p 9832, LVcp14at9832) := piece (shown_cons LVcp37at10379s shown_nil) (by decide +kernel) LVcp14at9832k
theorem LVcp6at257s : Shown (6, p 257, LVcp6at257) := piece (shown_cons LVcp14at879s (shown_cons LVcp14at1578s (shown_cons LVcp14at2206s (shown_cons LVcp14at2905s (shown_cons LVcp20at7353s (shown_cons LVcp14at8484s (shown_cons LVcp14at9832s shown_nil))))))) (by decide +kernel) LVcp6at257k
theorem LVdp14at879s : Shown (14, p 879, LVdp14at879) := piece shown_nil (by decide +kernel) LVdp14at879k
theorem LVdp14at1578s : Shown (14, p 1578, LVdp14at1578) := piece shown_nil (by decide +kernel) LVdp14at1578k
theorem LVdp14at2206s : Shown (14, p 2206, LVdp14at2206) := piece shown_nil (by decide +kernel) LVdp14at2206k
theorem LVdp43at5645s : Shown (43, p 5645, LVdp43at5645) := piece shown_nil (by decide +kernel) LVdp43at5645k
theorem LVdp298at5645s : Shown (298, p 5645, LVdp298at5645) := piece (shown_cons LVdp43at5645s shown_nil) (by decide +kernel) LVdp298at5645k
theorem LVdp183at4948s : Shown (183, p 4948, LVdp183at4948) := piece (shown_cons LVdp298at5645s shown_nil) (by decide +kernel) LVdp183at4948k
theorem LVdp37at4047s : Shown (37, p 4047, LVdp37at4047) := piece (shown_cons LVdp183at4948s shown_nil) (by decide +kernel) LVdp37at4047k
theorem LVdp14at2905s : Shown (14, p 2905, LVdp14at2905) := piece (shown_cons LVdp37at4047s shown_nil) (by decide +kernel) LVdp14at2905k
theorem LVdp20at7353s : Shown (20, p 7353, LVdp20at7353) := piece shown_nil (by decide +kernel) LVdp20at7353k
theorem LVdp37at9031s : Shown (37, p 9031, LVdp37at9031) := piece shown_nil (by decide +kernel) LVdp37at9031k
theorem LVdp14at8484s : Shown (14, p 8484, LVdp14at8484) := piece (shown_cons LVdp37at9031s shown_nil) (by decide +kernel) LVdp14at8484k
theorem LVdp37at10379s : Shown (37, p 10379, LVdp37at10379) := piece shown_nil (by decide +kernel) LVdp37at10379k
theorem LVdp14at9832s : Shown (14, p 9832, LVdp14at9832) := piece (shown_cons LVdp37at10379s shown_nil) (by decide +kernel) LVdp14at9832k
theorem LVdp6at257s : Shown (6, p 257, LVdp6at257) := piece (shown_cons LVdp14at879s (shown_cons LVdp14at1578s (shown_cons LVdp14at2206s (shown_cons LVdp14at2905s (shown_cons LVdp20at7353s (shown_cons LVdp14at8484s (shown_cons LVdp14at9832s shown_nil))))))) (by decide +kernel) LVdp6at257k
theorem LVep14at879s : Shown (14, p 879, LVep14at879) := piece shown_nil (by decide +kernel) LVep14at879k
theorem LVep14at1578s : Shown (14, p 1578, LVep14at1578) := piece shown_nil (by decide +kernel) LVep14at1578k
theorem LVep14at2206s : Shown (14, p 2206, LVep14at2206) := piece shown_nil (by decide +kernel) LVep14at2206k
theorem LVep43at5645s : Shown (43, p 5645, LVep43at5645) := piece shown_nil (by decide +kernel) LVep43at5645k
theorem LVep298at5645s : Shown (298, p 5645, LVep298at5645) := piece (shown_cons LVep43at5645s shown_nil) (by decide +kernel) LVep298at5645k
theorem LVep183at4948s : Shown (183, p 4948, LVep183at4948) := piece (shown_cons LVep298at5645s shown_nil) (by decide +kernel) LVep183at4948k
theorem LVep37at4047s : Shown (37, p 4047, LVep37at4047) := piece (shown_cons LVep183at4948s shown_nil) (by decide +kernel) LVep37at4047k
theorem LVep14at2905s : Shown (14, p 2905, LVep14at2905) := piece (shown_cons LVep37at4047s shown_nil) (by decide +kernel) LVep14at2905k
theorem LVep20at7353s : Shown (20, p 7353, LVep20at7353) := piece shown_nil (by decide +kernel) LVep20at7353k
theorem LVep37at9031s : Shown (37, p 9031, LVep37at9031) := piece shown_nil (by decide +kernel) LVep37at9031k
theorem LVep14at8484s : Shown (14, p 8484, LVep14at8484) := piece (shown_cons LVep37at9031s shown_nil) (by decide +kernel) LVep14at8484k
theorem LVep37at10379s : Shown (37, p 10379, LVep37at10379) := piece shown_nil (by decide +kernel) LVep37at10379k
theorem LVep14at9832s : Shown (14, p 9832, LVep14at9832) := piece (shown_cons LVep37at10379s shown_nil) (by decide +kernel) LVep14at9832k
theorem LVep6at257s : Shown (6, p 257, LVep6at257) := piece (shown_cons LVep14at879s (shown_cons LVep14at1578s (shown_cons LVep14at2206s (shown_cons LVep14at2905s (shown_cons LVep20at7353s (shown_cons LVep14at8484s (shown_cons LVep14at9832s shown_nil))))))) (by decide +kernel) LVep6at257k
theorem LVfp14at879s : Shown (14, p 879, LVfp14at879) := piece shown_nil (by decide +kernel) LVfp14at879k
theorem LVfp14at1578s : Shown (14, p 1578, LVfp14at1578) := piece shown_nil (by decide +kernel) LVfp14at1578k
theorem LVfp14at2206s : Shown (14, p 2206, LVfp14at2206) := piece shown_nil (by decide +kernel) LVfp14at2206k
theorem LVfp43at5645s : Shown (43, p 5645, LVfp43at5645) := piece shown_nil (by decide +kernel) LVfp43at5645k
theorem LVfp298at5645s : Shown (298, p 5645, LVfp298at5645) := piece (shown_cons LVfp43at5645s shown_nil) (by decide +kernel) LVfp298at5645k
theorem LVfp183at4948s : Shown (183, p 4948, LVfp183at4948) := piece (shown_cons LVfp298at5645s shown_nil) (by decide +kernel) LVfp183at4948k
theorem LVfp37at4047s : Shown (37, p 4047, LVfp37at4047) := piece (shown_cons LVfp183at4948s shown_nil) (by decide +kernel) LVfp37at4047k
theorem LVfp14at2905s : Shown (14, p 2905, LVfp14at2905) := piece (shown_cons LVfp37at4047s shown_nil) (by decide +kernel) LVfp14at2905k
theorem LVfp20at7353s : Shown (20, p 7353, LVfp20at7353) := piece shown_nil (by decide +kernel) LVfp20at7353k
theorem LVfp37at9031s : Shown (37, p 9031, LVfp37at9031) := piece shown_nil (by decide +kernel) LVfp37at9031k
theorem LVfp14at8484s : Shown (14, p 8484, LVfp14at8484) := piece (shown_cons LVfp37at9031s shown_nil) (by decide +kernel) LVfp14at8484k
theorem LVfp37at10379s : Shown (37, p 10379, LVfp37at10379) := piece shown_nil (by decide +kernel) LVfp37at10379k
theorem LVfp14at9832s : Shown (14, p 9832, LVfp14at9832) := piece (shown_cons LVfp37at10379s shown_nil) (by decide +kernel) LVfp14at9832k
theorem LVfp6at257s : Shown (6, p 257, LVfp6at257) := piece (shown_cons LVfp14at879s (shown_cons LVfp14at1578s (shown_cons LVfp14at2206s (shown_cons LVfp14at2905s (shown_cons LVfp20at7353s (shown_cons LVfp14at8484s (shown_cons LVfp14at9832s shown_nil))))))) (by decide +kernel) LVfp6at257k
theorem LVgp14at879s : Shown (14, p 879, LVgp14at879) := piece shown_nil (by decide +kernel) LVgp14at879k
theorem LVgp14at1578s : Shown (14, p 1578, LVgp14at1578) := piece shown_nil (by decide +kernel) LVgp14at1578k
theorem LVgp14at2206s : Shown (14, p 2206, LVgp14at2206) := piece shown_nil (by decide +kernel) LVgp14at2206k
theorem LVgp43at5645s : Shown (43, p 5645, LVgp43at5645) := piece shown_nil (by decide +kernel) LVgp43at5645k
theorem LVgp298at5645s : Shown (298, p 5645, LVgp298at5645) := piece (shown_cons LVgp43at5645s shown_nil) (by decide +kernel) LVgp298at5645k
theorem LVgp183at4948s : Shown (183, p 4948, LVgp183at4948) := piece (shown_cons LVgp298at5645s shown_nil) (by decide +kernel) LVgp183at4948k
theorem LVgp37at4047s : Shown (37, p 4047, LVgp37at4047) := piece (shown_cons LVgp183at4948s shown_nil) (by decide +kernel) LVgp37at4047k
theorem LVgp14at2905s : Shown (14, p 2905, LVgp14at2905) := piece (shown_cons LVgp37at4047s shown_nil) (by decide +kernel) LVgp14at2905k
theorem LVgp20at7353s : Shown (20, p 7353, LVgp20at7353) := piece shown_nil (by decide +kernel) LVgp20at7353k
theorem LVgp37at9031s : Shown (37, p 9031, LVgp37at9031) := piece shown_nil (by decide +kernel) LVgp37at9031k
theorem LVgp14at8484s : Shown (14, p 8484, LVgp14at8484) := piece (shown_cons LVgp37at9031s shown_nil) (by decide +kernel) LVgp14at8484k
theorem LVgp37at10379s : Shown (37, p 10379, LVgp37at10379) := piece shown_nil (by decide +kernel) LVgp37at10379k
theorem LVgp14at9832s : Shown (14, p 9832, LVgp14at9832) := piece (shown_cons LVgp37at10379s shown_nil) (by decide +kernel) LVgp14at9832k
theorem LVgp6at257s : Shown (6, p 257, LVgp6at257) := piece (shown_cons LVgp14at879s (shown_cons LVgp14at1578s (shown_cons LVgp14at2206s (shown_cons LVgp14at2905s (shown_cons LVgp20at7353s (shown_cons LVgp14at8484s (shown_cons LVgp14at9832s shown_nil))))))) (by decide +kernel) LVgp6at257k
theorem LVshown (n : Nat) : ∀ x ∈ LVcls n, Shown x := by
  unfold LVcls
  split
  · exact (shown_cons LVap6at257s shown_nil)
  · exact (shown_cons LVbp6at257s shown_nil)
  · exact (shown_cons LVcp6at257s shown_nil)
  · exact (shown_cons LVdp6at257s shown_nil)
  · exact (shown_cons LVep6at257s shown_nil)
  · exact (shown_cons LVfp6at257s shown_nil)
  · exact (shown_cons LVgp6at257s shown_nil)
theorem LVtop {n : Nat} (h : n < 256) (Post : Value → World → Prop) : TopS (GG Post) 5 [.nat .u8 n] A0 LVK := top_of (LVshown n) (LVno n h) (by decide +kernel) (LVall n h) Post
end Go.Ai
