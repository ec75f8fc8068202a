/-
  ERRORS by their numbers.
-/
import Derived.Test.YtgpjcjnimheglaaGreatDoorBase
namespace Go.Proofs.YtgpjcjnimheglaaGreatDoor
/-- an error as package api has them -/
def errV : Nat → Value
  | 0 => .nilIface
  | k => .iface 64 (.int .i64 k)
end Go.Proofs.YtgpjcjnimheglaaGreatDoor
