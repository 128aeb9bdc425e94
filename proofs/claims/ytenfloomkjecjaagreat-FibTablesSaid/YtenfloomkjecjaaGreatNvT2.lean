/- The total form of the law. -/
import Derived.Test.YtenfloomkjecjaaGreatNvT1
import Derived.KernelRfl
import Derived.Test.YtenfloomkjecjaaGreatNvS1
set_option maxRecDepth 100000
namespace Nv
open Go
end Nv
