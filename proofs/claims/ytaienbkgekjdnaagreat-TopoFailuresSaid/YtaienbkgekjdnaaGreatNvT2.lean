/- The total form of the law. -/
import Derived.Test.YtaienbkgekjdnaaGreatNvT1
import Derived.KernelRfl
import Derived.Test.YtaienbkgekjdnaaGreatNvS1
set_option maxRecDepth 100000
namespace Nv
open Go
def S.YU : Bool := true
theorem Ri : M.YU = some S.YU := Zbi
theorem Zbj : S.YU = true := rfl
end Nv
