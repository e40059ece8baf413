/- A part of the proof that the abstract interpreter is sound, and of the two goroutines of the lexer. -/
import Derived.Test.YticjebnbcnphkaaGreatDoorZAiK
import Derived.Test.YticjebnbcnphkaaGreatDoorProg

namespace Go.Ai
noncomputable section
def rows0 : List (Nat × Nat × List (List AV)) := [
  (2, 4, [[.nil 1, .bool true, .bool false, .bool false], [.nil 1, .bool false, .bool false, .bool true], [.nil 1, .bool true, .bool false, .bool false], [.slc (idOf 5) 0 2 (some 2), .bool true, .bool false, .bool false], [.slc (idOf 6) 0 2 (some 2), .bool false, .bool false, .bool false], [.slc (idOf 7) 0 2 (some 2), .bool false, .bool false, .bool false], [.slc (idOf 8) 0 2 (some 2), .bool true, .bool false, .bool false], [.slc (idOf 9) 0 3 (some 3), .bool false, .bool false, .bool false], [.slc (idOf 10) 0 1 (some 1), .bool false, .bool false, .bool false], [.slc (idOf 11) 0 1 (some 1), .bool false, .bool false, .bool false], [.nil 1, .bool false, .bool false, .bool false], [.nil 1, .bool false, .bool false, .bool false], [.slc (idOf 12) 0 1 (some 1), .bool false, .bool false, .bool false], [.slc (idOf 13) 0 4 (some 4), .bool false, .bool false, .bool false], [.nil 1, .bool false, .bool false, .bool false], [.slc (idOf 14) 0 2 (some 2), .bool false, .bool false, .bool false], [.nil 1, .bool false, .bool false, .bool false], [.nil 1, .bool false, .bool false, .bool false], [.slc (idOf 15) 0 3 (some 3), .bool false, .bool false, .bool false], [.slc (idOf 16) 0 2 (some 2), .bool false, .bool false, .bool false], [.slc (idOf 17) 0 4 (some 4), .bool false, .bool false, .bool false], [.slc (idOf 18) 0 6 (some 6), .bool false, .bool false, .bool false], [.slc (idOf 19) 0 5 (some 5), .bool false, .bool false, .bool false], [.slc (idOf 20) 0 2 (some 2), .bool false, .bool false, .bool false], [.slc (idOf 21) 0 4 (some 4), .bool false, .bool false, .bool false], [.nil 1, .bool false, .bool false, .bool true], [.nil 1, .bool true, .bool true, .bool true], [.nil 1, .bool false, .bool true, .bool true], [.slc (idOf 22) 0 1 (some 1), .bool false, .bool false, .bool false], [.nil 1, .bool false, .bool false, .bool false]]),
  (1, 1, [[.nat .u64 1], [.nat .u64 10], [.nat .u64 100], [.nat .u64 1000], [.nat .u64 10000], [.nat .u64 100000], [.nat .u64 1000000], [.nat .u64 10000000], [.nat .u64 100000000], [.nat .u64 1000000000], [.nat .u64 10000000000], [.nat .u64 100000000000], [.nat .u64 1000000000000], [.nat .u64 10000000000000], [.nat .u64 100000000000000], [.nat .u64 1000000000000000], [.nat .u64 10000000000000000], [.nat .u64 100000000000000000], [.nat .u64 1000000000000000000], [.nat .u64 10000000000000000000]]),
  (3, 1, [[.nat .u8 0], [.nat .u8 1], [.nat .u8 28], [.nat .u8 2], [.nat .u8 29], [.nat .u8 14], [.nat .u8 24], [.nat .u8 3], [.nat .u8 30], [.nat .u8 22], [.nat .u8 20], [.nat .u8 15], [.nat .u8 25], [.nat .u8 17], [.nat .u8 4], [.nat .u8 8], [.nat .u8 31], [.nat .u8 27], [.nat .u8 13], [.nat .u8 23], [.nat .u8 21], [.nat .u8 19], [.nat .u8 16], [.nat .u8 7], [.nat .u8 26], [.nat .u8 12], [.nat .u8 18], [.nat .u8 6], [.nat .u8 11], [.nat .u8 5], [.nat .u8 10], [.nat .u8 9]]),
  (4, 1, [[.nat .u8 0], [.nat .u8 1], [.nat .u8 56], [.nat .u8 2], [.nat .u8 57], [.nat .u8 49], [.nat .u8 28], [.nat .u8 3], [.nat .u8 61], [.nat .u8 58], [.nat .u8 42], [.nat .u8 50], [.nat .u8 38], [.nat .u8 29], [.nat .u8 17], [.nat .u8 4], [.nat .u8 62], [.nat .u8 47], [.nat .u8 59], [.nat .u8 36], [.nat .u8 45], [.nat .u8 43], [.nat .u8 51], [.nat .u8 22], [.nat .u8 53], [.nat .u8 39], [.nat .u8 33], [.nat .u8 30], [.nat .u8 24], [.nat .u8 18], [.nat .u8 12], [.nat .u8 5], [.nat .u8 63], [.nat .u8 55], [.nat .u8 48], [.nat .u8 27], [.nat .u8 60], [.nat .u8 41], [.nat .u8 37], [.nat .u8 16], [.nat .u8 46], [.nat .u8 35], [.nat .u8 44], [.nat .u8 21], [.nat .u8 52], [.nat .u8 32], [.nat .u8 23], [.nat .u8 11], [.nat .u8 54], [.nat .u8 26], [.nat .u8 40], [.nat .u8 15], [.nat .u8 34], [.nat .u8 20], [.nat .u8 31], [.nat .u8 10], [.nat .u8 25], [.nat .u8 14], [.nat .u8 19], [.nat .u8 9], [.nat .u8 13], [.nat .u8 8], [.nat .u8 7], [.nat .u8 6]]),
  (5, 1, [[.nat .i64 0], [.nat .i64 1]]),
  (6, 1, [[.nat .i64 0], [.nat .i64 1]]),
  (7, 1, [[.nat .i64 0], [.nat .i64 0]]),
  (8, 1, [[.nat .i64 0], [.nat .i64 1]]),
  (9, 1, [[.nat .i64 0], [.nat .i64 0], [.nat .i64 0]]),
  (10, 1, [[.nat .i64 0]]),
  (11, 1, [[.nat .i64 0]]),
  (12, 1, [[.nat .i64 0]]),
  (13, 1, [[.nat .i64 1], [.nat .i64 0], [.nat .i64 2], [.nat .i64 0]]),
  (14, 1, [[.nat .i64 0], [.nat .i64 0]]),
  (15, 1, [[.nat .i64 0], [.nat .i64 0], [.nat .i64 0]]),
  (16, 1, [[.nat .i64 0], [.nat .i64 0]]),
  (17, 1, [[.nat .i64 0], [.nat .i64 0], [.nat .i64 0], [.nat .i64 0]]),
  (18, 1, [[.nat .i64 0], [.nat .i64 0], [.nat .i64 1], [.nat .i64 0], [.nat .i64 0], [.nat .i64 0]]),
  (19, 1, [[.nat .i64 0], [.nat .i64 2], [.nat .i64 0], [.nat .i64 0], [.nat .i64 0]]),
  (20, 1, [[.nat .i64 0], [.nat .i64 0]]),
  (21, 1, [[.nat .i64 0], [.nat .i64 1], [.nat .i64 0], [.nat .i64 0]]),
  (22, 1, [[.nat .i64 0]])]
def next0 : Nat := 256

def A0 : AH := ⟨rows0.foldl (fun t x => HT.set (.ob (.row x.2.1 x.2.2.length (trOf 0 x.2.2 .lf))) (idOf x.1) t) .lf, idOf next0, 0, 0⟩
def p (n : Nat) : Pa := idOf n
def vi (n : Nat) : AV := .nat .i64 n
def vt : AV := .bool true
def vf : AV := .bool false
def vs (b n : Nat) : AV := .ref 1 (idOf b) 0 n (some n)
def lf : Tr (List AV) := .lf
def tl (v : List AV) : Tr (List AV) := .nd (some v) .lf .lf
def tn (v : List AV) (l r : Tr (List AV)) : Tr (List AV) := .nd (some v) l r
def cfO (l : List (Nat × Pa × Ora)) : Cfg := { join := 45, ibs := 195, lex := 15, tr := 48, fault := 166, ora := l }
def cf : Cfg := { join := 45, ibs := 195, lex := 15, tr := 48, fault := 166 }
def term (n : Nat) : List (List AV) := [.nat .i64 11, .nat .i64 0, .nat .i64 0, .str []] :: rowFrom [.nat .i64 12, .nat .i64 0, .nat .i64 0, .str []] n
def A1 (n : Nat) : AH := A0.new (.row 4 (n + 1) (trOf 0 (term n) .lf))
end
end Go.Ai
