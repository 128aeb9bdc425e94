/- What comes in has lengths within bounds. -/
import Derived.Test.YtkonldpliejgpaaNvT1
import Derived.Test.YtkonldpliejgpaaNvV1
namespace Nv
open Go
theorem LofW_TRoute {x : TRoute} (h : W_TRoute x) : L_TRoute x := ⟨(h.2.2.2.2.2.2.2.2.1).1, (h.2.2.2.2.2.2.2.2.2.2.2.1).1⟩
end Nv
