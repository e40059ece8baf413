/- The pieces are sound; so is the run. -/
import Derived.Test.YticjebnbcnphkaaGreatDoorZF20
import Derived.Test.YticjebnbcnphkaaGreatDoorZKTR0
import Derived.Test.YticjebnbcnphkaaGreatDoorZKTR1
import Derived.Test.YticjebnbcnphkaaGreatDoorZKTR2
import Derived.Test.YticjebnbcnphkaaGreatDoorZKTR3
import Derived.Test.YticjebnbcnphkaaGreatDoorZKTR4
import Derived.Test.YticjebnbcnphkaaGreatDoorZKTR5
import Derived.Test.YticjebnbcnphkaaGreatDoorZKTR6
import Derived.Test.YticjebnbcnphkaaGreatDoorZKTR7
import Derived.Test.YticjebnbcnphkaaGreatDoorZKTR8
import Derived.Test.YticjebnbcnphkaaGreatDoorZKTR9
import Derived.Test.YticjebnbcnphkaaGreatDoorZKTR10
import Derived.Test.YticjebnbcnphkaaGreatDoorZKTR11
import Derived.Test.YticjebnbcnphkaaGreatDoorZKTRt

set_option linter.unusedSimpArgs false
set_option linter.unusedVariables false
set_option linter.unusedSectionVars false

namespace Go.Ai
open Go Go.Proofs
namespace TR
theorem V (x : X) {l : List X} (h : W x l = true) (hl : ∀ y ∈ l, Shown y) (hd : oraD x.2.2 = true) : Shown x := piece hl hd h
theorem s0 : Shown x0 := V _ k0 shown_nil (by decide +kernel)
theorem s1 : Shown x1 := V _ k1 shown_nil (by decide +kernel)
theorem s2 : Shown x2 := V _ k2 shown_nil (by decide +kernel)
theorem s3 : Shown x3 := V _ k3 (shown_cons s2 shown_nil) (by decide +kernel)
theorem s4 : Shown x4 := V _ k4 (shown_cons s3 shown_nil) (by decide +kernel)
theorem s5 : Shown x5 := V _ k5 shown_nil (by decide +kernel)
theorem s6 : Shown x6 := V _ k6 shown_nil (by decide +kernel)
theorem s7 : Shown x7 := V _ k7 (shown_cons s0 (shown_cons s1 (shown_cons s4 (shown_cons s5 (shown_cons s6 shown_nil))))) (by decide +kernel)
theorem s8 : Shown x8 := V _ k8 shown_nil (by decide +kernel)
theorem s9 : Shown x9 := V _ k9 shown_nil (by decide +kernel)
theorem s10 : Shown x10 := V _ k10 shown_nil (by decide +kernel)
theorem s11 : Shown x11 := V _ k11 (shown_cons s10 shown_nil) (by decide +kernel)
theorem s12 : Shown x12 := V _ k12 (shown_cons s11 shown_nil) (by decide +kernel)
theorem s13 : Shown x13 := V _ k13 shown_nil (by decide +kernel)
theorem s14 : Shown x14 := V _ k14 shown_nil (by decide +kernel)
theorem s15 : Shown x15 := V _ k15 shown_nil (by decide +kernel)
theorem s16 : Shown x16 := V _ k16 shown_nil (by decide +kernel)
theorem s17 : Shown x17 := V _ k17 shown_nil (by decide +kernel)
theorem s18 : Shown x18 := V _ k18 shown_nil (by decide +kernel)
theorem s19 : Shown x19 := V _ k19 (shown_cons s14 (shown_cons s15 (shown_cons s16 (shown_cons s17 (shown_cons s18 shown_nil))))) (by decide +kernel)
theorem s20 : Shown x20 := V _ k20 shown_nil (by decide +kernel)
theorem s21 : Shown x21 := V _ k21 (shown_cons s20 shown_nil) (by decide +kernel)
theorem s22 : Shown x22 := V _ k22 (shown_cons s8 (shown_cons s9 (shown_cons s12 (shown_cons s13 (shown_cons s19 (shown_cons s21 shown_nil)))))) (by decide +kernel)
theorem s23 : Shown x23 := V _ k23 shown_nil (by decide +kernel)
theorem s24 : Shown x24 := V _ k24 shown_nil (by decide +kernel)
theorem s25 : Shown x25 := V _ k25 shown_nil (by decide +kernel)
theorem s26 : Shown x26 := V _ k26 (shown_cons s25 shown_nil) (by decide +kernel)
theorem s27 : Shown x27 := V _ k27 (shown_cons s26 shown_nil) (by decide +kernel)
theorem s28 : Shown x28 := V _ k28 shown_nil (by decide +kernel)
theorem s29 : Shown x29 := V _ k29 shown_nil (by decide +kernel)
theorem s30 : Shown x30 := V _ k30 shown_nil (by decide +kernel)
theorem s31 : Shown x31 := V _ k31 shown_nil (by decide +kernel)
theorem s32 : Shown x32 := V _ k32 shown_nil (by decide +kernel)
theorem s33 : Shown x33 := V _ k33 (shown_cons s29 (shown_cons s30 (shown_cons s31 (shown_cons s32 shown_nil)))) (by decide +kernel)
theorem s34 : Shown x34 := V _ k34 shown_nil (by decide +kernel)
theorem s35 : Shown x35 := V _ k35 shown_nil (by decide +kernel)
theorem s36 : Shown x36 := V _ k36 shown_nil (by decide +kernel)
theorem s37 : Shown x37 := V _ k37 shown_nil (by decide +kernel)
theorem s38 : Shown x38 := V _ k38 (shown_cons s34 (shown_cons s35 (shown_cons s36 (shown_cons s37 shown_nil)))) (by decide +kernel)
theorem s39 : Shown x39 := V _ k39 shown_nil (by decide +kernel)
theorem s40 : Shown x40 := V _ k40 (shown_cons s33 (shown_cons s38 (shown_cons s39 shown_nil))) (by decide +kernel)
theorem s41 : Shown x41 := V _ k41 shown_nil (by decide +kernel)
theorem s42 : Shown x42 := V _ k42 (shown_cons s41 shown_nil) (by decide +kernel)
theorem s43 : Shown x43 := V _ k43 (shown_cons s42 shown_nil) (by decide +kernel)
theorem s44 : Shown x44 := V _ k44 (shown_cons s23 (shown_cons s24 (shown_cons s27 (shown_cons s28 (shown_cons s40 (shown_cons s43 shown_nil)))))) (by decide +kernel)
theorem s45 : Shown x45 := V _ k45 shown_nil (by decide +kernel)
theorem s46 : Shown x46 := V _ k46 shown_nil (by decide +kernel)
theorem s47 : Shown x47 := V _ k47 shown_nil (by decide +kernel)
theorem s48 : Shown x48 := V _ k48 (shown_cons s47 shown_nil) (by decide +kernel)
theorem s49 : Shown x49 := V _ k49 (shown_cons s48 shown_nil) (by decide +kernel)
theorem s50 : Shown x50 := V _ k50 shown_nil (by decide +kernel)
theorem s51 : Shown x51 := V _ k51 (shown_cons s50 shown_nil) (by decide +kernel)
theorem s52 : Shown x52 := V _ k52 shown_nil (by decide +kernel)
theorem s53 : Shown x53 := V _ k53 shown_nil (by decide +kernel)
theorem s54 : Shown x54 := V _ k54 shown_nil (by decide +kernel)
theorem s55 : Shown x55 := V _ k55 shown_nil (by decide +kernel)
theorem s56 : Shown x56 := V _ k56 (shown_cons s52 (shown_cons s53 (shown_cons s54 (shown_cons s55 shown_nil)))) (by decide +kernel)
theorem s57 : Shown x57 := V _ k57 shown_nil (by decide +kernel)
theorem s58 : Shown x58 := V _ k58 shown_nil (by decide +kernel)
theorem s59 : Shown x59 := V _ k59 shown_nil (by decide +kernel)
theorem s60 : Shown x60 := V _ k60 shown_nil (by decide +kernel)
theorem s61 : Shown x61 := V _ k61 (shown_cons s57 (shown_cons s58 (shown_cons s59 (shown_cons s60 shown_nil)))) (by decide +kernel)
theorem s62 : Shown x62 := V _ k62 shown_nil (by decide +kernel)
theorem s63 : Shown x63 := V _ k63 shown_nil (by decide +kernel)
theorem s64 : Shown x64 := V _ k64 shown_nil (by decide +kernel)
theorem s65 : Shown x65 := V _ k65 shown_nil (by decide +kernel)
theorem s66 : Shown x66 := V _ k66 (shown_cons s62 (shown_cons s63 (shown_cons s64 (shown_cons s65 shown_nil)))) (by decide +kernel)
theorem s67 : Shown x67 := V _ k67 shown_nil (by decide +kernel)
theorem s68 : Shown x68 := V _ k68 (shown_cons s56 (shown_cons s61 (shown_cons s66 (shown_cons s67 shown_nil)))) (by decide +kernel)
theorem s69 : Shown x69 := V _ k69 shown_nil (by decide +kernel)
theorem s70 : Shown x70 := V _ k70 (shown_cons s69 shown_nil) (by decide +kernel)
theorem s71 : Shown x71 := V _ k71 (shown_cons s70 shown_nil) (by decide +kernel)
theorem s72 : Shown x72 := V _ k72 (shown_cons s71 shown_nil) (by decide +kernel)
theorem s73 : Shown x73 := V _ k73 (shown_cons s45 (shown_cons s46 (shown_cons s49 (shown_cons s51 (shown_cons s68 (shown_cons s72 shown_nil)))))) (by decide +kernel)
theorem s74 : Shown x74 := V _ k74 shown_nil (by decide +kernel)
theorem s75 : Shown x75 := V _ k75 shown_nil (by decide +kernel)
theorem s76 : Shown x76 := V _ k76 shown_nil (by decide +kernel)
theorem s77 : Shown x77 := V _ k77 (shown_cons s76 shown_nil) (by decide +kernel)
theorem s78 : Shown x78 := V _ k78 (shown_cons s77 shown_nil) (by decide +kernel)
theorem s79 : Shown x79 := V _ k79 shown_nil (by decide +kernel)
theorem s80 : Shown x80 := V _ k80 (shown_cons s79 shown_nil) (by decide +kernel)
theorem s81 : Shown x81 := V _ k81 (shown_cons s80 shown_nil) (by decide +kernel)
theorem s82 : Shown x82 := V _ k82 shown_nil (by decide +kernel)
theorem s83 : Shown x83 := V _ k83 shown_nil (by decide +kernel)
theorem s84 : Shown x84 := V _ k84 shown_nil (by decide +kernel)
theorem s85 : Shown x85 := V _ k85 shown_nil (by decide +kernel)
theorem s86 : Shown x86 := V _ k86 shown_nil (by decide +kernel)
theorem s87 : Shown x87 := V _ k87 (shown_cons s83 (shown_cons s84 (shown_cons s85 (shown_cons s86 shown_nil)))) (by decide +kernel)
theorem s88 : Shown x88 := V _ k88 shown_nil (by decide +kernel)
theorem s89 : Shown x89 := V _ k89 shown_nil (by decide +kernel)
theorem s90 : Shown x90 := V _ k90 shown_nil (by decide +kernel)
theorem s91 : Shown x91 := V _ k91 shown_nil (by decide +kernel)
theorem s92 : Shown x92 := V _ k92 shown_nil (by decide +kernel)
theorem s93 : Shown x93 := V _ k93 (shown_cons s88 (shown_cons s89 (shown_cons s90 (shown_cons s91 (shown_cons s92 shown_nil))))) (by decide +kernel)
theorem s94 : Shown x94 := V _ k94 shown_nil (by decide +kernel)
theorem s95 : Shown x95 := V _ k95 shown_nil (by decide +kernel)
theorem s96 : Shown x96 := V _ k96 shown_nil (by decide +kernel)
theorem s97 : Shown x97 := V _ k97 shown_nil (by decide +kernel)
theorem s98 : Shown x98 := V _ k98 (shown_cons s94 (shown_cons s95 (shown_cons s96 (shown_cons s97 shown_nil)))) (by decide +kernel)
theorem s99 : Shown x99 := V _ k99 shown_nil (by decide +kernel)
theorem s100 : Shown x100 := V _ k100 shown_nil (by decide +kernel)
theorem s101 : Shown x101 := V _ k101 shown_nil (by decide +kernel)
theorem s102 : Shown x102 := V _ k102 shown_nil (by decide +kernel)
theorem s103 : Shown x103 := V _ k103 (shown_cons s99 (shown_cons s100 (shown_cons s101 (shown_cons s102 shown_nil)))) (by decide +kernel)
theorem s104 : Shown x104 := V _ k104 shown_nil (by decide +kernel)
theorem s105 : Shown x105 := V _ k105 (shown_cons s82 (shown_cons s87 (shown_cons s93 (shown_cons s98 (shown_cons s103 (shown_cons s104 shown_nil)))))) (by decide +kernel)
theorem s106 : Shown x106 := V _ k106 shown_nil (by decide +kernel)
theorem s107 : Shown x107 := V _ k107 (shown_cons s106 shown_nil) (by decide +kernel)
theorem s108 : Shown x108 := V _ k108 (shown_cons s107 shown_nil) (by decide +kernel)
theorem s109 : Shown x109 := V _ k109 (shown_cons s108 shown_nil) (by decide +kernel)
theorem s110 : Shown x110 := V _ k110 (shown_cons s74 (shown_cons s75 (shown_cons s78 (shown_cons s81 (shown_cons s105 (shown_cons s109 shown_nil)))))) (by decide +kernel)
end TR
open TR
theorem TRshown (n : Nat) : ∀ x ∈ TRcls n, Shown x := by
  unfold TRcls
  split
  · exact (shown_cons s7 shown_nil)
  · exact (shown_cons s22 shown_nil)
  · exact (shown_cons s44 shown_nil)
  · exact (shown_cons s73 shown_nil)
  · exact (shown_cons s110 shown_nil)
theorem TRtop {n : Nat} (h : n < 256) (Post : Value → World → Prop) : TopS (GG Post) 4 [.nat .u8 n] A0 TRK := top_of (TRshown n) (TRno n h) (by decide +kernel) (TRall n h) Post
end Go.Ai
