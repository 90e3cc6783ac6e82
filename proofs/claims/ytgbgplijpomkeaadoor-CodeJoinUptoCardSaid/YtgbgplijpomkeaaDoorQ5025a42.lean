/- A part of the proof: texts joined. -/
import Derived.Test.YtgbgplijpomkeaaDoorQ48febda
/- Package code: the names of operations, plain. -/
namespace Go.Proofs.YtgbgplijpomkeaaDoor
open Go.RowKit Rg
set_option maxRecDepth 100000
namespace Lf
/-- They differ (out of the sight of omega). -/
def NE (a b : Int) : Prop := ¬ a = b
end Lf
namespace Cn
def digs : List UInt8 := [48, 49, 50, 51, 52, 53, 54, 55, 56, 57, 97, 98, 99, 100, 101, 102, 103, 104, 105, 106, 107, 108, 109, 110, 111, 112, 113, 114, 115, 116, 117, 118, 119, 120, 121, 122]
def digs2 : List UInt8 := [48, 48, 48, 49, 48, 50, 48, 51, 48, 52, 48, 53, 48, 54, 48, 55, 48, 56, 48, 57, 49, 48, 49, 49, 49, 50, 49, 51, 49, 52, 49, 53, 49, 54, 49, 55, 49, 56, 49, 57, 50, 48, 50, 49, 50, 50, 50, 51, 50, 52, 50, 53, 50, 54, 50, 55, 50, 56, 50, 57, 51, 48, 51, 49, 51, 50, 51, 51, 51, 52, 51, 53, 51, 54, 51, 55, 51, 56, 51, 57, 52, 48, 52, 49, 52, 50, 52, 51, 52, 52, 52, 53, 52, 54, 52, 55, 52, 56, 52, 57, 53, 48, 53, 49, 53, 50, 53, 51, 53, 52, 53, 53, 53, 54, 53, 55, 53, 56, 53, 57, 54, 48, 54, 49, 54, 50, 54, 51, 54, 52, 54, 53, 54, 54, 54, 55, 54, 56, 54, 57, 55, 48, 55, 49, 55, 50, 55, 51, 55, 52, 55, 53, 55, 54, 55, 55, 55, 56, 55, 57, 56, 48, 56, 49, 56, 50, 56, 51, 56, 52, 56, 53, 56, 54, 56, 55, 56, 56, 56, 57, 57, 48, 57, 49, 57, 50, 57, 51, 57, 52, 57, 53, 57, 54, 57, 55, 57, 56, 57, 57]
def itoa (n : Nat) : List UInt8 := if n < 10 then (digs.drop n).take (n + 1 - n) else (digs2.drop (n * 2)).take (n * 2 + 2 - n * 2)
theorem itoa_len {n : Nat} (h : n < 100) : (itoa n).length ≤ 2 ∧ 0 < (itoa n).length := by
  have h1 : digs.length = 36 := by decide
  have h2 : digs2.length = 200 := by decide
  unfold itoa
  split <;> simp only [List.length_take, List.length_drop] <;> omega
def rkN (n : Nat) : List UInt8 := if n = 0 then [115, 116, 111, 112] else if n = 1 then [97, 100, 100] else if n = 2 then [109, 117, 108] else if n = 3 then [115, 117, 98] else if n = 4 then [100, 105, 118] else if n = 5 then [115, 100, 105, 118] else if n = 6 then [109, 111, 100] else if n = 7 then [115, 109, 111, 100] else if n = 8 then [97, 100, 100, 109, 111, 100] else if n = 9 then [109, 117, 108, 109, 111, 100] else if n = 10 then [101, 120, 112] else if n = 11 then [101, 120, 116, 101, 110, 100] else if n = 16 then [108, 116] else if n = 17 then [103, 116] else if n = 18 then [115, 108, 116] else if n = 19 then [115, 103, 116] else if n = 20 then [101, 113] else if n = 21 then [122, 101, 114, 111] else if n = 22 then [97, 110, 100] else if n = 23 then [111, 114] else if n = 24 then [120, 111, 114] else if n = 25 then [110, 111, 116] else if n = 26 then [98, 121, 116, 101] else if n = 27 then [115, 104, 108] else if n = 28 then [115, 104, 114] else if n = 29 then [115, 97, 114] else []
def otN (n : Nat) : List UInt8 := if n = 32 then [115, 117, 109] else if n = 48 then [115, 101, 108, 102] else if n = 49 then [109, 111, 110, 101, 121] else if n = 50 then [99, 97, 108, 108, 101, 114] else if n = 51 then [118, 97, 108, 117, 101] else if n = 52 then [105, 110, 119, 111, 114, 100] else if n = 53 then [105, 110, 115, 105, 122, 101] else if n = 54 then [105, 110, 99, 111, 112, 121] else if n = 55 then [99, 111, 100, 101, 115, 105, 122, 101] else if n = 56 then [98, 97, 99, 107, 115, 105, 122, 101] else if n = 57 then [98, 97, 99, 107, 99, 111, 112, 121] else if n = 64 then [116, 105, 109, 101] else if n = 65 then [110, 117, 109, 98, 101, 114] else if n = 66 then [107, 101, 101, 112, 101, 114] else if n = 80 then [112, 111, 112] else if n = 81 then [108, 111, 97, 100] else if n = 82 then [115, 116, 111, 114, 101] else if n = 83 then [115, 116, 111, 114, 101, 56] else if n = 84 then [115, 108, 111, 116] else if n = 85 then [107, 101, 101, 112] else if n = 86 then [106, 117, 109, 112] else if n = 87 then [98, 114, 97, 110, 99, 104] else if n = 88 then [112, 99] else if n = 89 then [115, 105, 122, 101] else if n = 90 then [103, 97, 115] else if n = 91 then [108, 97, 110, 100] else if n = 240 then [109, 97, 107, 101] else if n = 241 then [99, 97, 108, 108] else if n = 242 then [114, 101, 116, 117, 114, 110] else if n = 243 then [108, 111, 111, 107] else if n = 244 then [108, 101, 110, 100] else if n = 253 then [114, 101, 118, 101, 114, 116] else []
def pushed (n : Nat) : Nat := if 96 ≤ n ∧ n < 128 then n - 95 else 0
def name (n : Nat) : List UInt8 := if 96 ≤ n ∧ n < 128 then [112, 117, 115, 104] ++ itoa (n - 96 + 1) else if 128 ≤ n ∧ n < 144 then [100, 117, 112] ++ itoa (n - 128 + 1) else if 144 ≤ n ∧ n < 160 then [115, 119, 97, 112] ++ itoa (n - 144 + 1) else if 160 ≤ n ∧ n ≤ 162 then [108, 111, 103] ++ itoa (n - 160) else if n < 32 then rkN n else otN n
end Cn
end Go.Proofs.YtgbgplijpomkeaaDoor
