/-
  The sums of literals join the rewriting.
-/
import Derived.Test.YtojgjdcciojpeaaPure21
namespace Go.PS
attribute [go_sem] Nat.reduceLT Nat.reduceEqDiff Nat.reduceAdd Nat.reduceLeDiff Nat.reduceMul Nat.reduceSub Nat.reduceBEq reduceCtorEq Int.reduceToNat
attribute [go_sem ↓] reduceIte
end Go.PS
