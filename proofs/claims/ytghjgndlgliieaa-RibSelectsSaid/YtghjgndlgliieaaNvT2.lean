/- The total form of the law. -/
import Derived.Test.YtghjgndlgliieaaNvT1
import Derived.KernelRfl
import Derived.Test.YtghjgndlgliieaaNvS1
set_option maxRecDepth 100000
namespace Nv
open Go
def S.law19_sane : Bool := true
theorem s_law19_sane : M.law19_sane = some S.law19_sane := sane_some
theorem sane_true : S.law19_sane = true := rfl

end Nv
