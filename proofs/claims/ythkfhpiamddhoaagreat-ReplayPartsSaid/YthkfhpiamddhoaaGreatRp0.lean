/- The document's own answers (awake), computed. -/
import Derived.Test.YthkfhpiamddhoaaGreatTab3
import Derived.Test.YthkfhpiamddhoaaGreatAmK
import Derived.KernelRfl
set_option autoImplicit false
namespace Go.Proofs.YthkfhpiamddhoaaGreat
open Go.AM
def isT : Option (D × St) → Bool
  | some (.v (.bool true), _) => true
  | _ => false
theorem awake_body : isT (bodyRun env (kall env 60) loopFuel 4 [] .empty) = true := by kernel_rfl
end Go.Proofs.YthkfhpiamddhoaaGreat
