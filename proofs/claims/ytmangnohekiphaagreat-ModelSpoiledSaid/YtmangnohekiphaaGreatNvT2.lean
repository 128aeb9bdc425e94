/- The total form of the law. -/
import Derived.Test.YtmangnohekiphaaGreatNvT1
import Derived.KernelRfl
set_option maxRecDepth 100000
namespace Nv
open Go
theorem sane_true : S.law5_sane = true := by kernel_rfl
end Nv
