/-
  ERRORS by their numbers.
-/
import Derived.Test.YtccljojceoidhaaDoorBase
namespace Go.Proofs.YtccljojceoidhaaDoor
/-- an error as package api has them -/
def errV : Nat → Value
  | 0 => .nilIface
  | k => .iface 66 (.int .i64 k)
end Go.Proofs.YtccljojceoidhaaDoor
