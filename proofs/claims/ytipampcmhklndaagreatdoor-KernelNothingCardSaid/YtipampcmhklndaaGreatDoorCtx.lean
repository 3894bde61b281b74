import Derived.Test.YtipampcmhklndaaGreatDoorTab
/- The evaluator's context at this program. -/
namespace Go.Proofs.YtipampcmhklndaaGreatDoor
open Go Go.Sh
abbrev nt : TypeId := 169
noncomputable def cx (bin : List (BinOp × AV × AV × AV)) (conv : List (TypeId × AV × AV)) (len : List (Nat × AV)) (slc : List (Nat × Nat)) : Ctx :=
  { ng := 1, ty := tyT, fn := fnT, sum := fun _ a H => idsSum 3 a H, summed := fun f => Nat.beq f 54, bin := bin, conv := conv, len := len, slc := slc, idx := [], lod := [], flatEq := fun _ _ _ => false }
def i (n : Nat) : AV := .int .i64 (.ofNat n)
/-! KernelNothing -/
def callS : AV := .agg [.sym 1, .sym 2, .sym 3, .sym 4, .sym 5, .sym 6, .sym 7, .sym 8, .sym 9]
noncomputable def runK (bin : List (BinOp × AV × AV × AV)) (slc : List (Nat × Nat)) (thread : AV) : Bool :=
  isTrue nt (callA (cx bin [] [(8, .sym 20), (9, .sym 21)] slc) 100000 100 (.fn 3) [thread, callS] (H0 nt))
def binLongData : List (BinOp × AV × AV × AV) := [(.gtr, .sym 20, i 300, .bool true)]
def binLongList : List (BinOp × AV × AV × AV) := [(.gtr, .sym 20, i 300, .bool false), (.gtr, .sym 21, i 80, .bool true)]
def binSmall : List (BinOp × AV × AV × AV) := [(.gtr, .sym 20, i 300, .bool false), (.gtr, .sym 21, i 80, .bool false)]
def binUnder : List (BinOp × AV × AV × AV) := binSmall ++ [(.neq, .sym 0, i 3, .bool true), (.lss, .sym 0, i 1, .bool true)]
def binAbove : List (BinOp × AV × AV × AV) := binSmall ++ [(.neq, .sym 0, i 3, .bool true), (.lss, .sym 0, i 1, .bool false), (.gtr, .sym 0, i 3, .bool true)]
def binKnown : List (BinOp × AV × AV × AV) := binSmall ++ [(.geq, .sym 1, i 1, .bool true), (.leq, .sym 1, i 49, .bool true)]
def binLow : List (BinOp × AV × AV × AV) := binSmall ++ [(.geq, .sym 1, i 1, .bool false), (.geq, .sym 1, i 8, .bool false), (.geq, .sym 1, i 14, .bool false), (.geq, .sym 1, i 20, .bool false), (.geq, .sym 1, i 28, .bool false), (.geq, .sym 1, i 34, .bool false), (.geq, .sym 1, i 39, .bool false),
  (.eql, .sym 1, i 6, .bool false), (.eql, .sym 1, i 7, .bool false), (.eql, .sym 1, i 13, .bool false), (.eql, .sym 1, i 17, .bool false), (.eql, .sym 1, i 11, .bool false), (.eql, .sym 1, i 12, .bool false), (.eql, .sym 1, i 49, .bool false)]
def binHigh : List (BinOp × AV × AV × AV) := binSmall ++ [(.geq, .sym 1, i 1, .bool true), (.geq, .sym 1, i 8, .bool true), (.geq, .sym 1, i 14, .bool true), (.geq, .sym 1, i 20, .bool true), (.geq, .sym 1, i 28, .bool true), (.geq, .sym 1, i 34, .bool true), (.geq, .sym 1, i 39, .bool true),
  (.leq, .sym 1, i 5, .bool false), (.leq, .sym 1, i 10, .bool false), (.leq, .sym 1, i 19, .bool false), (.leq, .sym 1, i 27, .bool false), (.leq, .sym 1, i 33, .bool false), (.leq, .sym 1, i 38, .bool false), (.leq, .sym 1, i 48, .bool false), (.leq, .sym 1, i 49, .bool false),
  (.eql, .sym 1, i 6, .bool false), (.eql, .sym 1, i 7, .bool false), (.eql, .sym 1, i 13, .bool false), (.eql, .sym 1, i 17, .bool false), (.eql, .sym 1, i 11, .bool false), (.eql, .sym 1, i 12, .bool false), (.eql, .sym 1, i 49, .bool false)]
def slcAll : List (Nat × Nat) := [(8, 1), (9, 1)]
end Go.Proofs.YtipampcmhklndaaGreatDoor
