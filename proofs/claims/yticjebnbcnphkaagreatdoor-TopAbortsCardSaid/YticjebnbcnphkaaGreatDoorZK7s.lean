/- The pieces are sound; so is the run. -/
import Derived.Test.YticjebnbcnphkaaGreatDoorZF20
import Derived.Test.YticjebnbcnphkaaGreatDoorZK7
import Derived.Test.YticjebnbcnphkaaGreatDoorZK8

set_option linter.unusedSimpArgs false
set_option linter.unusedVariables false
set_option linter.unusedSectionVars false

namespace Go.Ai
open Go Go.Proofs
theorem L7p298at3162s : Shown (298, p 3162, L7p298at3162) := piece shown_nil (by decide +kernel) L7p298at3162k
theorem L7p112at2070s : Shown (112, p 2070, L7p112at2070) := piece (shown_cons L7p298at3162s shown_nil) (by decide +kernel) L7p112at2070k
theorem L7p14at1000s : Shown (14, p 1000, L7p14at1000) := piece (shown_cons L7p112at2070s shown_nil) (by decide +kernel) L7p14at1000k
theorem L7p23at4321s : Shown (23, p 4321, L7p23at4321) := piece shown_nil (by decide +kernel) L7p23at4321k
theorem L7p14at3873s : Shown (14, p 3873, L7p14at3873) := piece (shown_cons L7p23at4321s shown_nil) (by decide +kernel) L7p14at3873k
theorem L7p102at6497s : Shown (102, p 6497, L7p102at6497) := piece shown_nil (by decide +kernel) L7p102at6497k
theorem L7p36at5750s : Shown (36, p 5750, L7p36at5750) := piece (shown_cons L7p102at6497s shown_nil) (by decide +kernel) L7p36at5750k
theorem L7p48at7951s : Shown (48, p 7951, L7p48at7951) := piece shown_nil (by decide +kernel) L7p48at7951k
theorem L7p226at9721s : Shown (226, p 9721, L7p226at9721) := piece shown_nil (by decide +kernel) L7p226at9721k
theorem L7p43at10968s : Shown (43, p 10968, L7p43at10968) := piece shown_nil (by decide +kernel) L7p43at10968k
theorem L7p298at10968s : Shown (298, p 10968, L7p298at10968) := piece (shown_cons L7p43at10968s shown_nil) (by decide +kernel) L7p298at10968k
theorem L7p112at7867s : Shown (112, p 7867, L7p112at7867) := piece (shown_cons L7p48at7951s (shown_cons L7p226at9721s (shown_cons L7p298at10968s shown_nil))) (by decide +kernel) L7p112at7867k
theorem L7p14at5523s : Shown (14, p 5523, L7p14at5523) := piece (shown_cons L7p36at5750s (shown_cons L7p112at7867s shown_nil)) (by decide +kernel) L7p14at5523k
theorem L7p14at12596s : Shown (14, p 12596, L7p14at12596) := piece shown_nil (by decide +kernel) L7p14at12596k
theorem L7p36at13576s : Shown (36, p 13576, L7p36at13576) := piece shown_nil (by decide +kernel) L7p36at13576k
theorem L7p183at14831s : Shown (183, p 14831, L7p183at14831) := piece shown_nil (by decide +kernel) L7p183at14831k
theorem L7p14at13448s : Shown (14, p 13448, L7p14at13448) := piece (shown_cons L7p36at13576s (shown_cons L7p183at14831s shown_nil)) (by decide +kernel) L7p14at13448k
theorem L7p43at17089s : Shown (43, p 17089, L7p43at17089) := piece shown_nil (by decide +kernel) L7p43at17089k
theorem L7p27at16453s : Shown (27, p 16453, L7p27at16453) := piece (shown_cons L7p43at17089s shown_nil) (by decide +kernel) L7p27at16453k
theorem L7s (Post : Value → World → Prop) : TopS (GG Post) 3 [.bool true] A0 (fun v _ => match v with | .bool b => b | _ => false) := top_of (shown_cons L7p14at1000s (shown_cons L7p14at3873s (shown_cons L7p14at5523s (shown_cons L7p14at12596s (shown_cons L7p14at13448s (shown_cons L7p27at16453s shown_nil)))))) (by decide +kernel) (by decide +kernel) L7k Post
end Go.Ai

namespace Go.Ai
open Go Go.Proofs
theorem L8p298at2945s : Shown (298, p 2945, L8p298at2945) := piece shown_nil (by decide +kernel) L8p298at2945k
theorem L8p112at1853s : Shown (112, p 1853, L8p112at1853) := piece (shown_cons L8p298at2945s shown_nil) (by decide +kernel) L8p112at1853k
theorem L8p14at783s : Shown (14, p 783, L8p14at783) := piece (shown_cons L8p112at1853s shown_nil) (by decide +kernel) L8p14at783k
theorem L8p23at4104s : Shown (23, p 4104, L8p23at4104) := piece shown_nil (by decide +kernel) L8p23at4104k
theorem L8p14at3656s : Shown (14, p 3656, L8p14at3656) := piece (shown_cons L8p23at4104s shown_nil) (by decide +kernel) L8p14at3656k
theorem L8p102at6280s : Shown (102, p 6280, L8p102at6280) := piece shown_nil (by decide +kernel) L8p102at6280k
theorem L8p36at5533s : Shown (36, p 5533, L8p36at5533) := piece (shown_cons L8p102at6280s shown_nil) (by decide +kernel) L8p36at5533k
theorem L8p48at7734s : Shown (48, p 7734, L8p48at7734) := piece shown_nil (by decide +kernel) L8p48at7734k
theorem L8p226at9504s : Shown (226, p 9504, L8p226at9504) := piece shown_nil (by decide +kernel) L8p226at9504k
theorem L8p43at10751s : Shown (43, p 10751, L8p43at10751) := piece shown_nil (by decide +kernel) L8p43at10751k
theorem L8p298at10751s : Shown (298, p 10751, L8p298at10751) := piece (shown_cons L8p43at10751s shown_nil) (by decide +kernel) L8p298at10751k
theorem L8p112at7650s : Shown (112, p 7650, L8p112at7650) := piece (shown_cons L8p48at7734s (shown_cons L8p226at9504s (shown_cons L8p298at10751s shown_nil))) (by decide +kernel) L8p112at7650k
theorem L8p14at12379s : Shown (14, p 12379, L8p14at12379) := piece shown_nil (by decide +kernel) L8p14at12379k
theorem L8s (Post : Value → World → Prop) : TopS (GG Post) 3 [.bool false] A0 (fun v _ => match v with | .bool b => b | _ => false) := top_of (shown_cons L8p14at783s (shown_cons L8p14at3656s (shown_cons L8p36at5533s (shown_cons L8p112at7650s (shown_cons L8p14at12379s shown_nil))))) (by decide +kernel) (by decide +kernel) L8k Post
end Go.Ai
